/-
  Contract of the turn of a store.
-/
import Derived.Test.YtdeabkkgmlimfaaGreatDoorChunk
import Derived.Test.YtdeabkkgmlimfaaGreatDoorRow
import Derived.Maps.OwnIn
import Derived.RangeFuncBox

set_option linter.unusedVariables false
set_option linter.unusedSimpArgs false

namespace Go.AM
open Go Go.Proofs Go.RowKit
set_option maxRecDepth 20000

abbrev SMap := List (List UInt8 × List UInt8 × Nat)

def smFind (k : List UInt8) : SMap → Nat → Option (Nat × List UInt8)
  | [], _ => none
  | e :: m, i => if e.1 = k then some (i, e.2.1) else smFind k m (i + 1)

theorem smFind_shift (k : List UInt8) : ∀ (m : SMap) (i j : Nat), smFind k m (i + j) = (smFind k m i).map fun x => (x.1 + j, x.2)
  | [], _, _ => rfl
  | e :: m, i, j => by
    simp only [smFind]
    split
    · rfl
    · rw [show i + j + 1 = (i + 1) + j by omega]; exact smFind_shift k m (i + 1) j

/-- Entries of the model. -/
def smM (m : SMap) : List MapEntry := m.map fun e => ⟨.string ⟨e.1.toArray⟩, .string ⟨e.2.1.toArray⟩, e.2.2⟩
/-- Entries of mine. -/
def smA (m : SMap) : List (AV × AV × Nat) := m.map fun e => (.str e.1, .str e.2.1, e.2.2)

theorem smA_ers {g : Gh} : ∀ {m : SMap}, ERs g (smA m) (smM m)
  | [] => .nil
  | e :: m => .cons ⟨.str _, .str _, rfl⟩ smA_ers
theorem smA_inv {g : Gh} : ∀ {m : SMap} {l : List MapEntry}, ERs g (smA m) l → l = smM m
  | [], _, .nil => rfl
  | e :: m, _, .cons (e := e') h hs => by
    obtain ⟨h1, h2, h3⟩ := h
    rw [smA_inv hs]
    cases e' with
    | mk k v b =>
      simp only at h1 h2 h3
      cases h1; cases h2; subst h3; rfl

theorem findNow_sm (k : List UInt8) : ∀ (m : SMap) (i : Nat), Instr.findNow .string (.string ⟨k.toArray⟩) (smM m) i = some ((smFind k m i).map fun x => (x.1, .string ⟨x.2.toArray⟩))
  | [], _ => rfl
  | e :: m, i => by
    have hs : Instr.sameNow .string (.string ⟨k.toArray⟩) (.string ⟨e.1.toArray⟩) = some (k == e.1) := by
      simp [Instr.sameNow, bytes_beq]
    show Instr.findNow .string (.string ⟨k.toArray⟩) (⟨.string ⟨e.1.toArray⟩, .string ⟨e.2.1.toArray⟩, e.2.2⟩ :: smM m) i = _
    simp only [Instr.findNow, hs, smFind]
    by_cases h : e.1 = k
    · subst h; simp
    · have : (k == e.1) = false := by rw [beq_eq_false_iff_ne]; exact fun e' => h e'.symm
      rw [this, if_neg h]; exact findNow_sm k m (i + 1)

theorem smFind_spec (k : List UInt8) : ∀ (m : SMap) (i j : Nat) (v : List UInt8), smFind k m i = some (j, v) → ∃ e, i ≤ j ∧ m[j - i]? = some e ∧ e.1 = k ∧ e.2.1 = v
  | [], _, _, _, h => by cases h
  | e :: m, i, j, v, h => by
    simp only [smFind] at h
    split at h
    · cases h; exact ⟨e, Nat.le_refl _, by simp, by assumption, rfl⟩
    · obtain ⟨e', h1, h2, h3⟩ := smFind_spec k m (i + 1) j v h
      refine ⟨e', by omega, ?_, h3⟩
      rw [show j - i = (j - (i + 1)) + 1 by omega]; simpa using h2

def smPut (k v : List UInt8) (m : SMap × Nat) : SMap × Nat :=
  match smFind k m.1 0 with
  | some x => (m.1.modify x.1 fun e => (k, v, e.2.2), m.2)
  | none => (m.1 ++ [(k, v, m.2)], m.2 + 1)
def smDel (k : List UInt8) (m : SMap × Nat) : SMap × Nat :=
  match smFind k m.1 0 with
  | some x => (m.1.eraseIdx x.1, m.2)
  | none => m

/-- The map m lies at block r. -/
def MapAt (r : Nat) (m : SMap × Nat) (w : World) : Prop := w.heap[r]? = some (.map (smM m.1).toArray m.2)

def World.setMap (w : World) (r : Nat) (m : SMap × Nat) : World := { w with heap := w.heap.setIfInBounds r (.map (smM m.1).toArray m.2) }

theorem smM_modify (k v : List UInt8) : ∀ (m : SMap) (i : Nat), (smM m).modify i (fun e => { e with key := .string ⟨k.toArray⟩, val := .string ⟨v.toArray⟩ }) = smM (m.modify i fun e => (k, v, e.2.2))
  | [], i => by simp [smM]
  | e :: m, 0 => by simp [smM]
  | e :: m, i + 1 => by have := smM_modify k v m i; simp [smM] at this ⊢; exact this

theorem run_update {r : Nat} {m : SMap × Nat} {w : World} (h : MapAt r m w) (k v : List UInt8) :
    (Instr.mapUpdate 52 (.map (some r)) (.string ⟨k.toArray⟩) (.string ⟨v.toArray⟩)).run Tryz.prog w = .ok () (World.setMap w r (smPut k v m)) := by
  have hu : Tryz.prog.underlying 52 = some (.map 9 9) := by kernel_rfl
  have hu9 : Tryz.prog.underlying 9 = some .string := by kernel_rfl
  have hf := findNow_sm k m.1 0
  unfold MapAt at h
  unfold smPut World.setMap
  cases hq : smFind k m.1 0 with
  | none =>
    rw [hq] at hf
    simp [Instr.mapUpdate, run_under hu, run_getMap h, run_checkKey hu9 (.inr ⟨rfl, rfl⟩), run_findKey hu9 hf, run_setMap h]
    simp [smM]
  | some x =>
    rw [hq] at hf
    obtain ⟨e, h1, h2, h3, h4⟩ := smFind_spec k m.1 0 x.1 x.2 hq
    have hx : ((smM m.1).toArray[x.1]?).map (·.key) = some (.string ⟨k.toArray⟩) := by
      simp only [Nat.sub_zero] at h2
      simp [smM, h2, h3]
    have hst : (Instr.keyThatStays (.string ⟨k.toArray⟩) (.string ⟨k.toArray⟩)).run Tryz.prog w = .ok (.string ⟨k.toArray⟩) w := by
      have hb : ((⟨k.toArray⟩ : ByteArray) == ⟨k.toArray⟩) = true := by rw [bytes_beq]; simp
      simp [Instr.keyThatStays, Instr.sameBits, hb]
    simp only [Instr.mapUpdate, Sem.run_bind, run_under hu, Result.andThen_ok, run_getMap h, run_checkKey hu9 (.inr ⟨rfl, rfl⟩), run_findKey hu9 hf, Option.map_some, hx, Option.getD_some, hst, run_setMap h, Sem.run_pure]
    simp only [List.modify_toArray]
    rw [smM_modify]

theorem smM_erase : ∀ (m : SMap) (i : Nat), (smM m).eraseIdx i = smM (m.eraseIdx i)
  | [], i => by simp [smM]
  | e :: m, 0 => by simp [smM]
  | e :: m, i + 1 => by have := smM_erase m i; simp [smM] at this ⊢; exact this
theorem smM_eraseA {m : SMap} {i : Nat} (h : i < m.length) : (smM m).toArray.eraseIdxIfInBounds i = (smM (m.eraseIdx i)).toArray := by
  unfold Array.eraseIdxIfInBounds
  have hl : i < (smM m).toArray.size := by simpa [smM] using h
  rw [dif_pos hl]
  simp [smM_erase]

theorem run_delete {r : Nat} {m : SMap × Nat} {w : World} (h : MapAt r m w) (k : List UInt8) (ty : TypeId) :
    (Builtin.delete_ #[52, 9] ty #[.map (some r), .string ⟨k.toArray⟩]).run Tryz.prog w = .ok (.tuple #[]) (World.setMap w r (smDel k m)) := by
  have hu : Tryz.prog.underlying 52 = some (.map 9 9) := by kernel_rfl
  have hu9 : Tryz.prog.underlying 9 = some .string := by kernel_rfl
  have hf := findNow_sm k m.1 0
  unfold MapAt at h
  unfold smDel World.setMap
  cases hq : smFind k m.1 0 with
  | none =>
    rw [hq] at hf
    simp [Builtin.delete_, run_under hu, run_getMap h, run_checkKey hu9 (.inr ⟨rfl, rfl⟩), run_findKey hu9 hf, run_setMap h]
  | some x =>
    rw [hq] at hf
    obtain ⟨e, h1, h2, h3, h4⟩ := smFind_spec k m.1 0 x.1 x.2 hq
    have hlt : x.1 < m.1.length := by simpa using (List.getElem?_eq_some_iff.1 h2).1
    simp [Builtin.delete_, run_under hu, run_getMap h, run_checkKey hu9 (.inr ⟨rfl, rfl⟩), run_findKey hu9 hf, run_setMap h]
    rw [smM_erase]

theorem mapAt_set {r : Nat} {m m' : SMap × Nat} {w : World} (h : MapAt r m w) : MapAt r m' (World.setMap w r m') := by
  unfold MapAt World.setMap
  have := (Array.getElem?_eq_some_iff.1 h).1
  simp [this]
theorem grown_set {r : Nat} {m : SMap × Nat} {w : World} : w.grownBy (World.setMap w r m) (some r) := by
  refine ⟨rfl, rfl, rfl, by simp [World.setMap], fun k hk hne => ?_⟩
  unfold World.setMap
  rw [Array.getElem?_setIfInBounds_ne (by rintro rfl; exact hne rfl)]
theorem cell_setMap {r : Nat} {m m' : SMap × Nat} {w : World} (h : MapAt r m w) {p : Addr} {v : Value} (hc : w.cell? p = some v) : (World.setMap w r m').cell? p = some v := by
  have hne : p.block ≠ r := by
    rintro rfl
    unfold World.cell? at hc
    rw [h] at hc
    cases hc
  unfold World.cell? World.setMap at *
  rw [Array.getElem?_setIfInBounds_ne (Ne.symm hne)]
  exact hc
end Go.AM

namespace Go.AM
open Go Go.Proofs Go.RowKit Go.Shelf
attribute [local go_sem] Oper.semAt_some

set_option maxRecDepth 100000
set_option maxHeartbeats 4000000 in
theorem tb_chunk0 (F : Fence) (n : Nat) (h56 : F.fn 56) (hro : F.round = none) (l Bs Bn cap : Nat) (p : Option Addr)
    (J : List (Fin 0) → World → Prop) (W : World) (hBs : W.cell? ⟨Bs, 0, none⟩ = some (.slice p 0 cap)) (h0 : J [] W) :
    CallsIn F n Tryz.prog 56 #[.func (.yield l) #[] #[], .pointer (some ⟨Bs, 0, none⟩), .pointer (some ⟨Bn, 0, none⟩)] W fun e W' => (∃ v, e = .returned v) ∧ J [] W' := by
  refine callsIn_of_wp Tryz.func56 rfl h56 ?_ hro
  simp only [Tryz.ntmps56, List.size_toArray, List.length_cons, List.length_nil, Nat.reduceAdd, Nat.reduceSub, Array.replicate_succ, Array.replicate_zero, List.push_toArray, List.append_toArray, List.nil_append, List.cons_append]
  gi_wp2
  gi_loopw [4] (fun i wr => i = .int .i64 0 ∧ J [] wr ∧ wr.cell? ⟨Bs, 0, none⟩ = some (.slice p 0 cap)) (fun _ _ => 0)
  case atStart => exact ⟨rfl, h0, hBs⟩
  case round =>
    obtain ⟨rfl, hJs, hBs2⟩ := hrel
    gi_wp2
    go_end0
    exact ⟨⟨_, rfl⟩, hJs⟩

set_option maxHeartbeats 1000000 in
theorem tb_chunkM (F : Fence) (n : Nat) (h33 : F.fn 33) (hro : F.round = none) (a : Option Addr) (len cap : Nat) (w : World) :
    CallsIn F n Tryz.prog 33 #[.slice a len cap, .int .i64 2] w fun e w' => e = .returned (.func (.func 56) #[] #[.pointer (some ⟨w.heap.size, 0, none⟩), .pointer (some ⟨w.heap.size + 1, 0, none⟩)]) ∧ w' = (w.alloc (.cells #[.slice a len cap] 32)).alloc (.cells #[.int .i64 2] 3) := by
  refine callsIn_of_wp Tryz.func33 rfl h33 ?_ hro
  simp only [Tryz.ntmps33, List.size_toArray, List.length_cons, List.length_nil, Nat.reduceAdd, Nat.reduceSub, Array.replicate_succ, Array.replicate_zero, List.push_toArray, List.append_toArray, List.nil_append, List.cons_append]
  gi_wp2
  go_ret
  exact ⟨rfl, rfl⟩

theorem tb_stops (F : Fence) (n : Nat) (h56 : F.fn 56) (hro : F.round = none) (hn : 1 ≤ n) (Bs Bn r n₀ N cap b off : Nat) (p : Option Addr) (hreach : 2 * N ≤ cap) (hreach2 : N ≤ 4294967296) (hp : 0 < N → p = some ⟨b, off, none⟩) (hbs : Bs < n₀) (hbn : Bn < n₀) (hrs : Bs ≠ r) (hrn : Bn ≠ r) (w : World)
    (hs1 : Bs < w.heap.size) (hs2 : Bn < w.heap.size) (hBs : w.cell? ⟨Bs, 0, none⟩ = some (.slice p (2 * N) cap)) (hBn : w.cell? ⟨Bn, 0, none⟩ = some (.int .i64 2)) :
    SeqStopsK F n Tryz.prog 56 #[.pointer (some ⟨Bs, 0, none⟩), .pointer (some ⟨Bn, 0, none⟩)] (fun x : Fin N => #[Value.slice (some ⟨b, off + 2 * x.1, none⟩) 2 2]) (KBut r n₀) (fun ys => ys = List.finRange N) (fun _ => True) N w := fun l J Jx W hW hJ _ hY h0 => by
  have h1 := (hW.cell (p := ⟨Bs, 0, none⟩) hs1).trans hBs
  have h2 := (hW.cell (p := ⟨Bn, 0, none⟩) hs2).trans hBn
  cases N with
  | zero =>
    refine (tb_chunk0 F n h56 hro l Bs Bn cap p J W h1 h0).mono ?_
    rintro e W' ⟨he, hj⟩
    exact ⟨he, .inl ⟨[], rfl, hj⟩⟩
  | succ N =>
    have := hp (by omega)
    subst this
    exact tb_chunk1 F n h56 hro hn l Bs Bn r n₀ (N + 1) cap b off hreach hreach2 hbs hbn hrs hrn J Jx hY (fun pre w hs => hJ pre w w.drew none hs ⟨rfl, rfl, rfl, Nat.le_refl _, fun _ _ _ => rfl⟩ (by simp)) W h1 h2 h0

theorem kbut_putObj {r n₀ B : Nat} (hB : n₀ ≤ B) (W : World) (l : Nat) (o o' : Obj) (hl : B ≤ l) (_ : W.heap[l]? = some o) (_ : o.isCells = false) (_ : o.isWalk = false) : KBut r n₀ W (W.putObj l o') :=
  ⟨rfl, rfl, rfl, by simp [World.putObj], fun k hk _ => by simp only [World.putObj]; rw [Array.getElem?_setIfInBounds_ne (by omega)]⟩

theorem grown_setD {r : Nat} {m : SMap × Nat} {w : World} : w.grownBy (World.setMap w.drew r m) (some r) := by
  refine ⟨rfl, rfl, rfl, by simp [World.setMap], fun k hk hne => ?_⟩
  unfold World.setMap
  rw [Array.getElem?_setIfInBounds_ne (by rintro rfl; exact hne rfl)]
  rfl

/-- One change. -/
abbrev Chg := List UInt8 × List UInt8 × Bool
def opStr (c : Chg) : List UInt8 := if c.2.2 then [45] else 43 :: c.2.1
def smChg (m : SMap × Nat) (c : Chg) : SMap × Nat := if c.2.2 then smDel c.1 m else smPut c.1 c.2.1 m
def smChgs (m : SMap × Nat) (cs : List Chg) : SMap × Nat := cs.foldl smChg m

set_option maxHeartbeats 4000000 in
theorem tb_turn (r : Nat) (m : SMap × Nat) (cs : List Chg) (sv : Value) (s : List UInt8) (w : World) (hm : MapAt r m w) (hcs : cs.length ≤ 4294967296)
    (hconv : (convert 55 9 sv).run Tryz.prog ((w.alloc (.cells #[.map (some r)] 52)).alloc (.cells #[.bool false] 4)) = .ok (.string ⟨s.toArray⟩) ((w.alloc (.cells #[.map (some r)] 52)).alloc (.cells #[.bool false] 4)))
    (G : Option Addr → Nat → Nat → Nat → World → Prop)
    (hsplit : Calls Tryz.prog 32 #[.string ⟨s.toArray⟩] ((w.alloc (.cells #[.map (some r)] 52)).alloc (.cells #[.bool false] 4)) fun e w' => ∃ p b off cap, e = .returned (.tuple #[.slice p (2 * cs.length) cap, .bool true]) ∧ G p b off cap w')
    (hG : ∀ p b off cap w3, G p b off cap w3 → (0 < cs.length → p = some ⟨b, off, none⟩) ∧ 2 * cs.length ≤ cap ∧ MapAt r m w3 ∧ w.heap.size + 2 ≤ w3.heap.size ∧ w3.cell? ⟨w.heap.size, 0, none⟩ = some (.map (some r)) ∧ w3.frozen? ⟨w.heap.size, 0, none⟩ = false ∧
      w3.cell? ⟨w.heap.size + 1, 0, none⟩ = some (.bool false) ∧ w3.frozen? ⟨w.heap.size + 1, 0, none⟩ = false ∧
      ∀ (k : Nat) (c : Chg), cs[k]? = some c → w3.cell? ⟨b, off + 2 * k, none⟩ = some (.string ⟨c.1.toArray⟩) ∧ w3.cell? ⟨b, off + 2 * k + 1, none⟩ = some (.string ⟨(opStr c).toArray⟩)) :
    Calls Tryz.prog 19 #[.map (some r), sv] w fun e W' => e = .returned (.bool true) ∧ ∃ p b off cap w3, G p b off cap w3 ∧ W'.os = w3.os ∧ W'.tape = w3.tape ∧ W'.output = w3.output ∧ w3.heap.size ≤ W'.heap.size ∧ (∀ k, k < w3.heap.size → k ≠ r → k ≠ w.heap.size + 1 → W'.heap[k]? = w3.heap[k]?) ∧ MapAt r (smChgs m cs) W' := by
  refine (callsIn_wide (n := 6)).1 ?_
  refine callsIn_of_wp_marks Tryz.func19 rfl trivial ?_ rfl
  simp only [Tryz.ntmps19, List.size_toArray, List.length_cons, List.length_nil, Nat.reduceAdd, Nat.reduceSub, Array.replicate_succ, Array.replicate_zero, List.push_toArray, List.append_toArray, List.nil_append, List.cons_append]
  gi_wp2_with (first | (refine ⟨trivial, ?_⟩; gi_at_call 32; refine (callsIn_wide.2 hsplit).mono ?_; rintro e w' ⟨p, b, off, cap, rfl, hg⟩) | (refine ⟨trivial, ?_⟩; gi_at_call 33; refine (tb_chunkM _ _ trivial rfl _ _ _ _).mono ?_; rintro e w' ⟨rfl, rfl⟩))
  obtain ⟨g1, g2, g3, g4, g5, g6, g7, g8, g9⟩ := hG _ _ _ _ _ hg
  have hrw : r < w.heap.size := (Array.getElem?_eq_some_iff.1 hm).1
  have hB5 : Below w'.heap.size w' ((w'.alloc (.cells #[.slice p (2 * cs.length) cap] 32)).alloc (.cells #[.int .i64 2] 3)) := ((Below.refl _ w').alloc (Nat.le_refl _) _).alloc (by simp) _
  have bS := Boxed.new w' 32 (.slice p (2 * cs.length) cap)
  have bN := Boxed.new (w'.alloc (.cells #[.slice p (2 * cs.length) cap] 32)) 3 (.int .i64 2)
  rw [World.size_alloc] at bN
  refine wpIn_rangeFunc_ownG rfl (by omega) (gf := 56) (lb := #[.pointer (some ⟨w'.heap.size, 0, none⟩), .pointer (some ⟨w'.heap.size + 1, 0, none⟩)]) rfl trivial (enters_of Tryz.func56 (by kernel_rfl) rfl)
    (tb_stops Fence.wide 5 trivial rfl (by omega) w'.heap.size (w'.heap.size + 1) r (w'.heap.size + 2) cs.length cap b off p g2 hcs g1 (by omega) (by omega) (by omega) (by omega) _ (by simp; omega) (by simp) (bS.alloc _).cell bN.cell) KBut.trans (kbut_putObj (by simp)) (Below.refl _ _) (fun _ => rfl)
    (fun pre W => MapAt r (smChgs m (pre.map fun x => cs[x.1])) W ∧ W.cell? ⟨w.heap.size, 0, none⟩ = some (.map (some r)) ∧ W.cell? ⟨w.heap.size + 1, 0, none⟩ = some (.bool false) ∧ W.frozen? ⟨w.heap.size + 1, 0, none⟩ = false ∧ KBut r (w'.heap.size + 2) ((w'.alloc (.cells #[.slice p (2 * cs.length) cap] 32)).alloc (.cells #[.int .i64 2] 3)) W)
    (fun _ _ _ => False)
    ?hI
    (fun _ _ _ _ _ hs _ _ => hs)
    ?h0
    (fun x => { tmps := #[Value.map (some r), sv, Value.pointer (some { block := w.heap.size, off := 0 }), undef,
          Value.pointer (some { block := w.heap.size + 1, off := 0 }), Value.slice p (2 * cs.length) cap,
          Value.bool true, Value.slice (some ⟨b, off + 2 * x.1, none⟩) 2 2, undef, undef, Value.tuple #[Value.slice p (2 * cs.length) cap, Value.bool true], sv,
          Value.string { data := s.toArray }, Value.tuple #[Value.slice p (2 * cs.length) cap, Value.bool true],
          Value.slice p (2 * cs.length) cap, Value.bool true, Value.bool true, Value.bool false, Value.bool false,
          Value.slice p (2 * cs.length) cap, Value.int IntKind.i64 (2 * ↑cs.length), Value.int IntKind.i64 0,
          Value.bool false, Value.bool false, Value.slice p (2 * cs.length) cap,
          Value.func (Fn.func 56) #[]
            #[Value.pointer (some { block := w'.heap.size, off := 0 }),
              Value.pointer (some { block := w'.heap.size + 1, off := 0 })],
          Value.slice (some ⟨b, off + 2 * x.1, none⟩) 2 2, undef, undef, undef, undef, undef, undef, undef, undef, undef, undef, undef, undef, undef, undef,
          undef, undef, undef, undef, undef, undef, undef, undef, undef], defers := [] }) ?assign ?body ?done ?stop
  case hI =>
    rintro pre A B row ⟨i1, i2, i3, i4, i5⟩ hg hr
    have hne : ∀ {k}, k < w'.heap.size + 2 → some k ≠ row := fun hk e => by have := (hr _ e.symm).1; simp at this; omega
    have hsz := i5.size
    simp only [World.size_alloc] at hsz
    have hb : ∀ k, k < w'.heap.size + 2 → B.heap[k]? = A.heap[k]? := fun k hk => hg.block k (by omega) (hne hk)
    refine ⟨(hb r (by omega)).trans i1, (World.cell?_of_block (hb _ (by simp; omega))).trans i2, (World.cell?_of_block (hb _ (by simp; omega))).trans i3, (World.frozen?_of_block (hb _ (by simp; omega))).trans i4, ?_⟩
    exact ⟨hg.os.trans i5.os, hg.tape.trans i5.tape, hg.output.trans i5.output, Nat.le_trans i5.size hg.size, fun k hk hkr => (hb k hk).trans (i5.block k hk hkr)⟩
  case h0 =>
    refine ⟨(hB5.block r (by omega)).trans g3, (hB5.cell (by simp; omega)).trans g5, (hB5.cell (by simp; omega)).trans g7, ?_, KBut.refl _ _ _⟩
    exact (World.frozen?_of_block (hB5.block _ (by simp; omega))).trans g8
  case assign =>
    intro l x W K hK
    gi_wp2
    exact hK
  case body =>
    rintro l pre x W ⟨i1, i2, i3, i4, i5⟩ hlen
    obtain ⟨j1, j2⟩ := g9 x.1 cs[x.1] (List.getElem?_eq_getElem x.2)
    have hcell : ∀ {p : Addr} {v : Value}, w'.cell? p = some v → W.cell? p = some v := fun {p v} hv => by
      have hlt : p.block < w'.heap.size := World.block_lt_of_cell? _ _ hv
      have hne : p.block ≠ r := fun e => by
        unfold World.cell? at hv
        rw [e, g3] at hv
        cases hv
      exact (i5.cell (by omega) hne).trans ((hB5.cell hlt).trans hv)
    have k1 := hcell j1
    have k2 := hcell j2
    generalize hc : cs[x.1] = c at k1 k2
    have hfold : smChgs m ((pre ++ [x]).map fun x => cs[x.1]) = smChg (smChgs m (pre.map fun x => cs[x.1])) c := by
      rw [List.map_append, List.map_cons, List.map_nil, hc]; unfold smChgs; rw [List.foldl_append]; rfl
    have fin : ∀ M, M = smChgs m ((pre ++ [x]).map fun x => cs[x.1]) → KeepsFrom ((w'.alloc (.cells #[.slice p (2 * cs.length) cap] 32)).alloc (.cells #[.int .i64 2] 3)).heap.size W (World.setMap W.drew r M) ∧ KBut r (w'.heap.size + 2) W (World.setMap W.drew r M) ∧
        (MapAt r (smChgs m ((pre ++ [x]).map fun x => cs[x.1])) (World.setMap W.drew r M) ∧ (World.setMap W.drew r M).cell? ⟨w.heap.size, 0, none⟩ = some (.map (some r)) ∧ (World.setMap W.drew r M).cell? ⟨w.heap.size + 1, 0, none⟩ = some (.bool false) ∧ (World.setMap W.drew r M).frozen? ⟨w.heap.size + 1, 0, none⟩ = false ∧ KBut r (w'.heap.size + 2) ((w'.alloc (.cells #[.slice p (2 * cs.length) cap] 32)).alloc (.cells #[.int .i64 2] 3)) (World.setMap W.drew r M)) := by
      rintro M rfl
      have hgr : W.grownBy (World.setMap W.drew r (smChgs m ((pre ++ [x]).map fun x => cs[x.1]))) (some r) := grown_setD
      have hkb : KBut r (w'.heap.size + 2) W (World.setMap W.drew r (smChgs m ((pre ++ [x]).map fun x => cs[x.1]))) := ⟨hgr.os, hgr.tape, hgr.output, hgr.size, fun k hk hkr => by
        unfold World.setMap
        rw [Array.getElem?_setIfInBounds_ne (Ne.symm hkr)]
        rfl⟩
      refine ⟨.of_grownBy hgr (fun j e => by cases e; simp; omega), hkb, mapAt_set (w := W.drew) i1, ?_, ?_, ?_, i5.trans hkb⟩
      · exact (hkb.cell (by simp; omega) (by simp; omega)).trans i2
      · exact (hkb.cell (by simp; omega) (by simp; omega)).trans i3
      · exact (World.frozen?_of_block (hkb.block _ (by simp; omega) (by simp; omega))).trans i4
    cases hdel : c.2.2
    · have hos : opStr c = 43 :: c.2.1 := by unfold opStr; rw [hdel]; rfl
      have hch : smChg (smChgs m (pre.map fun x => cs[x.1])) c = smPut c.1 c.2.1 (smChgs m (pre.map fun x => cs[x.1])) := by unfold smChg; rw [hdel]; rfl
      rw [hos] at k2
      have hcp : Calls Tryz.prog 34 #[.string ⟨(43 :: c.2.1).toArray⟩, .string ⟨#[43]⟩] W fun e w' => e = .returned (.tuple #[.string ⟨c.2.1.toArray⟩, .bool true]) ∧ W = w' := by
        refine (tb_cutPrefix34 _ _ W).mono ?_
        rintro e w' ⟨rfl, rfl⟩
        simp [Lib.trimPrefix, Lib.hasPrefix]
      have hup := run_update i1 c.1 c.2.1
      gi_wp2_with (refine ⟨trivial, ?_⟩; gi_at_call 34; refine (CallsIn.inRound l (callsIn_wide.2 hcp)).mono ?_; rintro e w' ⟨rfl, rfl⟩)
      have hupd : (Instr.mapUpdate 52 (.map (some r)) (.string ⟨c.1.toArray⟩) (.string ⟨c.2.1.toArray⟩)).run Tryz.prog W.drew = .ok () (World.setMap W.drew r (smPut c.1 c.2.1 (smChgs m (pre.map fun x => cs[x.1])))) := run_update (w := W.drew) i1 c.1 c.2.1
      have hf := fin (smPut c.1 c.2.1 (smChgs m (pre.map fun x => cs[x.1]))) (hch.symm.trans hfold.symm)
      gi_region
      all_goals exact hf
    · have hos : opStr c = [45] := by unfold opStr; rw [hdel]; rfl
      have hch : smChg (smChgs m (pre.map fun x => cs[x.1])) c = smDel c.1 (smChgs m (pre.map fun x => cs[x.1])) := by unfold smChg; rw [hdel]; rfl
      rw [hos] at k2
      have hcp : Calls Tryz.prog 34 #[.string ⟨[45].toArray⟩, .string ⟨#[43]⟩] W fun e w' => e = .returned (.tuple #[.string ⟨[45].toArray⟩, .bool false]) ∧ W = w' := by
        refine (tb_cutPrefix34 _ _ W).mono ?_
        rintro e w' ⟨rfl, rfl⟩
        have hp : Lib.hasPrefix [45] [43] = false := by decide
        simp [Lib.trimPrefix, hp]
      have hbeq : ((⟨[45].toArray⟩ : ByteArray) == ⟨#[45]⟩) = true := by decide +kernel
      gi_wp2_with (refine ⟨trivial, ?_⟩; gi_at_call 34; refine (CallsIn.inRound l (callsIn_wide.2 hcp)).mono ?_; rintro e w' ⟨rfl, rfl⟩)
      have hupd := run_delete (w := W.drew) i1 c.1 0
      have hf := fin (smDel c.1 (smChgs m (pre.map fun x => cs[x.1]))) (hch.symm.trans hfold.symm)
      gi_region
      all_goals exact hf
  case done =>
    rintro D ys W hD rfl ⟨i1, i2, i3, i4, i5⟩ hK
    gi_wp2
    simp only [World.size_alloc] at hD
    have hsz := i5.size
    simp only [World.size_alloc] at hsz
    have hK2 : (W.setCell ⟨w.heap.size + 1, 0, none⟩ (.bool true)).heap[D]? = some (.deferred (some [])) := (Below.heap_setCell W ⟨w.heap.size + 1, 0, none⟩ _ _ (by show D ≠ w.heap.size + 1; omega)).trans hK
    refine ⟨by simp, .inl ⟨_, _, rfl, run_takeDeferred hK2, ?_⟩⟩
    have hc5 : ((W.setCell ⟨w.heap.size + 1, 0, none⟩ (.bool true)).putObj D (.deferred none)).cell? ⟨w.heap.size + 1, 0, none⟩ = some (.bool true) :=
      (World.cell?_of_block (World.putObj_heap_other (k := w.heap.size + 1) (by omega))).trans (World.cell?_setCell_same' _ _ _ (by rw [i3]; rfl))
    refine ⟨.bool true, by simp [results, Tryz.f19, go_sem, hc5], rfl, p, b, off, cap, w', hg, i5.os.trans hB5.os, i5.tape.trans hB5.tape, i5.output.trans hB5.output, by simp [World.putObj, World.setCell]; omega, fun k hk hkr hk1 => ?_, ?_⟩
    · rw [World.putObj_heap_other (by omega), Below.heap_setCell W ⟨w.heap.size + 1, 0, none⟩ _ _ hk1]
      exact (i5.block k (by omega) hkr).trans (hB5.block k hk)
    · show (World.putObj _ _ _).heap[r]? = _
      rw [World.putObj_heap_other (by omega), Below.heap_setCell W ⟨w.heap.size + 1, 0, none⟩ _ _ (by show r ≠ w.heap.size + 1; omega)]
      have e : (List.finRange cs.length).map (fun x => cs[x.1]) = cs := by
        apply List.ext_getElem
        · simp
        · intro i h1 h2; simp
      rw [e] at i1
      exact i1
  case stop =>
    rintro D c pre W _ _ h _
    exact h.elim
end Go.AM

namespace Go.AM
open Go Go.Proofs Go.RowKit
set_option maxRecDepth 20000
variable (mx : Int)

def encL (cs : List Chg) : List (List UInt8) := cs.flatMap fun c => [c.1, opStr c]
theorem encL_len (cs : List Chg) : (encL cs).length = 2 * cs.length := by
  induction cs with
  | nil => rfl
  | cons c cs ih => simp only [encL, List.flatMap_cons, List.length_append, List.length_cons, List.length_nil] at ih ⊢; omega
theorem encL_get : ∀ {cs : List Chg} {k : Nat} {c : Chg}, cs[k]? = some c → (encL cs)[2 * k]? = some c.1 ∧ (encL cs)[2 * k + 1]? = some (opStr c)
  | [], k, c, h => by simp at h
  | d :: cs, 0, c, h => by simp at h; subst h; simp [encL]
  | d :: cs, k + 1, c, h => by
    have := encL_get (cs := cs) (k := k) (c := c) (by simpa using h)
    rw [show 2 * (k + 1) = 2 * k + 1 + 1 by omega]
    simpa [encL] using this

theorem flat_strs (xs : List (List UInt8)) : (xs.map AV.str).flatMap AV.cells = xs.map AV.str := by
  induction xs with
  | nil => rfl
  | cons s r ih => rw [List.map_cons, List.flatMap_cons, ih]; rfl

theorem lst_strs {g : Gh} {h : H} {w : World} {t : Tag} {xs : List (List UInt8)} {v : Value} (hr : Rel g h w) (hv : VR g (.lst t 1 (xs.map .str)) v) :
    ∃ p b off cap, v = .slice p xs.length cap ∧ (0 < xs.length → p = some ⟨b, off, none⟩) ∧ xs.length ≤ cap ∧ ∀ (k : Nat) (s : List UInt8), xs[k]? = some s → w.cell? ⟨b, off + k, none⟩ = some (.string ⟨s.toArray⟩) := by
  generalize hxs : xs.map AV.str = ys at hv
  cases hv with
  | lstn =>
    have : xs = [] := by cases xs with
      | nil => rfl
      | cons s r => simp at hxs
    subst this
    exact ⟨none, 0, 0, 0, rfl, fun h => by simp at h, by simp, fun k s hk => by simp at hk⟩
  | lst _ _ _ vs bl o cap hvs hsz hh htg hc =>
    subst hxs
    rw [flat_strs] at hvs
    rw [List.length_map] at hc ⊢
    refine ⟨_, bl, o, cap, rfl, fun _ => rfl, hc, fun k s hk => ?_⟩
    obtain ⟨u, hu, hru⟩ := hvs.get (i := k) (a := .str s) (by simp [hk])
    cases hru
    have hc := Gh.has_cell hr hh hu
    rw [Addr.add_lit] at hc
    exact hc

theorem smA_of {g : Gh} {h : H} {w : World} (hr : Rel g h w) {r : Nat} {m : SMap × Nat} (hm : h.m r = some (.map (smA m.1) m.2)) : MapAt r m w := by
  obtain ⟨es', h1, h2⟩ := map_obj hr hm
  have := smA_inv h2
  unfold MapAt
  rw [h1, ← this]

theorem conv_of {g : Gh} {h : H} {w w2 : World} {t : Tag} {s : List UInt8} {v : Value} (hr : Rel g h w) (hv : VR g (.lst t 1 (ofStr s)) v) (hb : Below w.heap.size w w2) : (convert 55 9 v).run Tryz.prog w2 = .ok (.string ⟨s.toArray⟩) w2 := by
  have hu : Tryz.prog.underlying 55 = some (.slice 5) := by kernel_rfl
  have hu5 : Tryz.prog.underlying 5 = some (.int .u8) := by kernel_rfl
  have hu9 : Tryz.prog.underlying 9 = some .string := by kernel_rfl
  generalize hys : ofStr s = ys at hv
  cases hv with
  | lstn =>
    have : s = [] := by cases s with
      | nil => rfl
      | cons s r => simp [ofStr] at hys
    subst this
    exact run_convert_bytes_nil w2 55 5 hu hu5 0 0 9 hu9
  | lst _ _ _ vs bl o cap hvs hsz hh htg hc =>
    subst hys
    have hfl : (ofStr s).flatMap AV.cells = ofStr s := by
      clear hh hvs hsz htg hc hr
      induction s with
      | nil => rfl
      | cons c r ih => 
        show AV.cells (.int .u8 c.toNat) ++ (ofStr r).flatMap AV.cells = _
        rw [ih]; rfl
    rw [hfl] at hvs
    rw [ofStr_len]
    refine run_convert_bytes_back (P := Tryz.prog) w2 55 9 5 ⟨bl, o, none⟩ cap s hu hu5 hu9 fun j hj => ?_
    obtain ⟨u, hu, hru⟩ := hvs.get (i := j) (a := .int .u8 (s[j].toNat : Int)) (by simp [ofStr, hj])
    cases hru
    have hc := Gh.has_cell hr hh hu
    exact (hb.cell (World.block_lt_of_cell? _ _ hc)).trans hc

theorem c19 {r : Nat} {m : SMap × Nat} {cs : List Chg} {t : Tag} {h : H} {Q : QQ} (ht : T3 h) (hm : h.m r = some (.map (smA m.1) m.2)) (hok : ∀ c ∈ cs, c.1.length < 1000000 ∧ c.2.1.length < 999999) (hl : (textsL (encL cs)).length < 4294967281)
    (hq : Q (.bool true) (h.put r (.map (smA (smChgs m cs).1) (smChgs m cs).2))) : AC mx 19 [.map (some r), .lst t 1 (ofStr (textsL (encL cs)))] h Q := by
  intro g w vs h1 h2 h3
  obtain ⟨v1, v2, rfl, hv1, hv2⟩ := vrs2 h3
  cases hv1
  have hx : ∀ x ∈ encL cs, x.length < 1000000 := fun x hx => by
    simp only [encL, List.mem_flatMap] at hx
    obtain ⟨c, hc, hx⟩ := hx
    have := hok c hc
    simp only [List.mem_cons, List.not_mem_nil, or_false] at hx
    rcases hx with rfl | rfl
    · exact this.1
    · unfold opStr; split <;> simp <;> omega
  have hb2 : Below w.heap.size w ((w.alloc (.cells #[.map (some r)] 52)).alloc (.cells #[.bool false] 4)) := ((Below.refl _ w).alloc (Nat.le_refl _) _).alloc (by simp) _
  have I1 := inv_below h2 hb2
  unfold CallsX
  rw [enters_of Tryz.func19 (by kernel_rfl) rfl]
  have hsp := c32 mx (xs := encL cs) (h := h) (Q := fun v h' => h' = h ∧ ∃ t, v = .tup [.lst t 1 ((encL cs).map .str), .bool true]) ht hx hl (fun t => ⟨rfl, t, rfl⟩) g _ [.string ⟨(textsL (encL cs)).toArray⟩] h1 I1.rel (.cons (.str _) .nil)
  unfold CallsX at hsp
  rw [enters_of Tryz.func32 (by kernel_rfl) rfl] at hsp
  have hlen := textsL_two (encL cs)
  rw [encL_len] at hlen
  refine (tb_turn r m cs v2 (textsL (encL cs)) w (smA_of h2 hm) (by omega) (conv_of h2 hv2 hb2)
    (fun p b off cap w3 => ∃ g3, Inv h ((w.alloc (.cells #[.map (some r)] 52)).alloc (.cells #[.bool false] 4)) g g3 h w3 ∧ (0 < cs.length → p = some ⟨b, off, none⟩) ∧ 2 * cs.length ≤ cap ∧ ∀ (k : Nat) (s : List UInt8), (encL cs)[k]? = some s → w3.cell? ⟨b, off + k, none⟩ = some (.string ⟨s.toArray⟩))
    (hsp.mono ?_) ?_).mono ?_
  · rintro e w' he
    cases e with
    | returned v =>
      obtain ⟨g3, h', av, ⟨rfl, t', rfl⟩, hi, hv⟩ := he
      cases hv with
      | tup _ vs hvs =>
        cases hvs with
        | cons ha hb =>
          cases hb with
          | cons hb hc =>
            cases hb; cases hc
            obtain ⟨p, b, off, cap, rfl, k1, k2, k3⟩ := lst_strs hi.rel ha
            rw [encL_len] at k1 k2 ⊢
            exact ⟨p, b, off, cap, rfl, g3, hi, fun h => k1 (by omega), k2, k3⟩
    | _ => exact he.elim
  · rintro p b off cap w3 ⟨g3, hi, k1, k2, k3⟩
    have hnm : ∀ b, w.heap.size ≤ b → h.m b = none ∧ h.t b = none := fun b hb => by
      refine ⟨?_, ?_⟩
      · cases e : h.m b with
        | none => rfl
        | some o => have := h2.block e; omega
      · cases e : h.t b with
        | none => rfl
        | some o => have := h2.tblock e; omega
    have q1 : w3.heap[w.heap.size]? = some (.cells #[.map (some r)] 52 (0, 0)) := by
      rw [(hi.keep w.heap.size (by simp; omega) (hnm _ (by omega)).1 (hnm _ (by omega)).2).1]
      exact (Boxed.new w 52 (.map (some r))).alloc _
    have q2 : w3.heap[w.heap.size + 1]? = some (.cells #[.bool false] 4 (0, 0)) := by
      rw [(hi.keep (w.heap.size + 1) (by simp) (hnm _ (by omega)).1 (hnm _ (by omega)).2).1]
      have := Boxed.new (w.alloc (.cells #[.map (some r)] 52)) 4 (.bool false)
      rw [World.size_alloc] at this
      exact this
    refine ⟨k1, k2, smA_of hi.rel hm, ?_, ?_, ?_, ?_, ?_, fun k c hc => ?_⟩
    · have := hi.size; simp at this; omega
    · exact Boxed.cell q1
    · exact Boxed.frozen q1
    · exact Boxed.cell q2
    · exact Boxed.frozen q2
    · obtain ⟨e1, e2⟩ := encL_get hc
      exact ⟨k3 _ _ e1, k3 _ _ e2⟩
  · rintro e W' ⟨rfl, p, b, off, cap, w3, ⟨g3, hi, _⟩, f1, f2, f3, f4, f5, f6⟩
    refine ⟨g3, _, _, hq, ?_, .bool _⟩
    have hnm : ∀ b, w.heap.size ≤ b → h.m b = none ∧ h.t b = none := fun b hb => by
      refine ⟨?_, ?_⟩
      · cases e : h.m b with
        | none => rfl
        | some o => have := h2.block e; omega
      · cases e : h.t b with
        | none => rfl
        | some o => have := h2.tblock e; omega
    have I12 := I1.trans hi
    have hr3 := hi.rel
    have hrr := hr3.mm r _ hm
    have hB1 : ∀ i, g3.im (w.heap.size + 1) i = none := fun i => by
      rw [(hi.keep (w.heap.size + 1) (by simp) (hnm _ (by omega)).1 (hnm _ (by omega)).2).2.2.2 i]
      cases e : g.im (w.heap.size + 1) i with
      | none => rfl
      | some v => have := World.block_lt_of_cell? _ _ (h2.im _ _ _ e); simp at this; omega
    have hmb : ∀ b, b ≠ r → (h.put r (.map (smA (smChgs m cs).1) (smChgs m cs).2)).m b = h.m b := fun b hb => put_other hb
    refine ⟨⟨fun b i v hv => ?_, fun b l hl => Nat.lt_of_lt_of_le (hr3.lim b l hl) f4, fun b o ho => ?_, fun b e he => ?_⟩, I12.le, Nat.le_trans I12.size f4, f2.trans I12.tape, f1.trans I12.os, f3.trans I12.output, fun b hb hbm hbt => ?_⟩
    · have hc := hr3.im b i v hv
      have hlt := World.block_lt_of_cell? _ _ hc
      have n1 : b ≠ r := by rintro rfl; rw [hrr.2.1 i] at hv; cases hv
      have n2 : b ≠ w.heap.size + 1 := by rintro rfl; rw [hB1 i] at hv; cases hv
      rw [World.cell?_of_block (f5 b hlt n1 n2)]
      exact hc
    · by_cases hb : b = r
      · subst hb
        rw [put_same] at ho
        cases ho
        exact ⟨⟨_, f6, rfl, smA_ers⟩, hrr.2.1, hrr.2.2⟩
      · rw [hmb b hb] at ho
        obtain ⟨⟨x, x1, x2⟩, x3, x4⟩ := hr3.mm b o ho
        have n2 : b ≠ w.heap.size + 1 := by rintro rfl; rw [(hnm _ (by omega)).1] at ho; cases ho
        exact ⟨⟨x, by rw [f5 b (hr3.block ho) hb n2]; exact x1, x2⟩, x3, x4⟩
    · change h.t b = some e at he
      obtain ⟨⟨l, vs, T, x1, x2, x3⟩, x4⟩ := hr3.tt b e he
      have n1 : b ≠ r := by rintro rfl; rw [hrr.2.2] at he; cases he
      have n2 : b ≠ w.heap.size + 1 := by rintro rfl; rw [(hnm _ (by omega)).2] at he; cases he
      exact ⟨⟨l, vs, T, x1, by rw [f5 b (hr3.tblock he) n1 n2]; exact x2, x3⟩, x4⟩
    · have n1 : b ≠ r := by rintro rfl; rw [hm] at hbm; cases hbm
      obtain ⟨y1, y2, y3, y4⟩ := I12.keep b hb hbm hbt
      refine ⟨?_, by rw [hmb b n1]; exact hbm, hbt, y4⟩
      rw [f5 b (Nat.lt_of_lt_of_le hb I12.size) n1 (by omega)]
      exact y1
end Go.AM
