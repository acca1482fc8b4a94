/-
  Contracts: weaker, framed; the table of types.
-/
import Derived.Test.YtdeabkkgmlimfaaGreatDoorAmc
import Derived.Test.YtdeabkkgmlimfaaGreatDoorProg
import Derived.KernelRfl

set_option linter.unusedVariables false
set_option linter.unusedSimpArgs false

namespace Go.AM
open Go

variable {P : Program} {gl : Nat → AV} {f : FuncId} {args : List AV} {h h1 : H} {Q Q' : AV → H → Prop}

theorem ACall.weaken (hc : ACall P gl f args h Q) (hq : ∀ v h', Q v h' → ∃ h'', h''.le h' ∧ Q' v h'') : ACall P gl f args h Q' :=
  fun g w vs h1 h2 h3 => CallsX.mono (hc g w vs h1 h2 h3) fun _ _ ⟨g', h', av, h4, h5, h6⟩ =>
    let ⟨h'', hl, hq'⟩ := hq _ _ h4
    ⟨g', h'', av, hq', h5.weaken hl, h6⟩

/-- What a call over a part of the heap leaves of the whole. -/
structure Ext (h h1 h1' h' : H) : Prop where
  le : h1'.le h'
  m : ∀ b o, h.m b = some o → h1.free b → h'.m b = some o ∧ h1'.free b
  t : ∀ b e, h.t b = some e → h1.free b → h'.t b = some e ∧ h1'.free b
  new : ∀ b, ¬ h1'.free b → ¬ h1.free b ∨ h.free b

open Classical in
noncomputable def H.over (h h1 h1' : H) : H :=
  ⟨fun b => if h1.free b then (match h1'.m b with | some o => some o | none => h.m b) else h1'.m b,
   fun b => if h1.free b then (match h1'.t b with | some o => some o | none => h.t b) else h1'.t b⟩

theorem ACall.frame (hc : ACall P gl f args h1 Q) (hle : h1.le h) (hq : ∀ v h1' h', Q v h1' → Ext h h1 h1' h' → Q' v h') : ACall P gl f args h Q' := by
  intro g w vs hgl hr hvs
  refine CallsX.mono (hc g w vs hgl (hr.weaken hle) hvs) ?_
  rintro v w' ⟨g', h1', av, hQ, hi, hv⟩
  -- a block that lay, and is no part: nothing is known of it behind
  have keep : ∀ b, b < w.heap.size → h1.free b → w'.heap[b]? = w.heap[b]? ∧ h1'.m b = none ∧ h1'.t b = none ∧ ∀ i, g'.im b i = g.im b i :=
    fun b hb hf => hi.keep b hb hf.1 hf.2
  have hm1 : ∀ b, h1.free b → h1'.m b = none → (h.over h1 h1').m b = h.m b := fun b hf he => by simp [H.over, hf, he]
  have hmS : ∀ b o, h1'.m b = some o → (h.over h1 h1').m b = some o := fun b o he => by simp [H.over, he]
  have ht1 : ∀ b, h1.free b → h1'.t b = none → (h.over h1 h1').t b = h.t b := fun b hf he => by simp [H.over, hf, he]
  have htS : ∀ b o, h1'.t b = some o → (h.over h1 h1').t b = some o := fun b o he => by simp [H.over, he]
  have hmN : ∀ b, ¬ h1.free b → (h.over h1 h1').m b = h1'.m b := fun b hf => by simp [H.over, hf]
  have htN : ∀ b, ¬ h1.free b → (h.over h1 h1').t b = h1'.t b := fun b hf => by simp [H.over, hf]
  refine ⟨g', h.over h1 h1', av, hq av h1' _ hQ ⟨⟨hmS, htS⟩, ?_, ?_, ?_⟩, ⟨⟨hi.rel.im, hi.rel.lim, ?_, ?_⟩, hi.le, hi.size, hi.tape, hi.os, hi.output, ?_⟩, hv⟩
  · intro b o hb hf
    obtain ⟨_, k2, k3, _⟩ := keep b (hr.block hb) hf
    exact ⟨by rw [hm1 b hf k2]; exact hb, k2, k3⟩
  · intro b o hb hf
    obtain ⟨_, k2, k3, _⟩ := keep b (hr.tblock hb) hf
    exact ⟨by rw [ht1 b hf k3]; exact hb, k2, k3⟩
  · intro b hnf
    by_cases hf : h1.free b
    · right
      rcases Nat.lt_or_ge b w.heap.size with hlt | hge
      · obtain ⟨_, k2, k3, _⟩ := keep b hlt hf
        exact absurd ⟨k2, k3⟩ hnf
      · constructor
        · cases hx : h.m b with
          | none => rfl
          | some o => exact absurd (hr.block hx) (Nat.not_lt.2 hge)
        · cases hx : h.t b with
          | none => rfl
          | some o => exact absurd (hr.tblock hx) (Nat.not_lt.2 hge)
    · exact .inl hf
  · intro b o hb
    cases h1b : h1'.m b with
    | some o' =>
      rw [hmS b o' h1b] at hb; cases hb
      obtain ⟨k1, k2, k3⟩ := hi.rel.mm b _ h1b
      refine ⟨k1, k2, ?_⟩
      by_cases hf : h1.free b
      · rw [ht1 b hf k3]
        rcases Nat.lt_or_ge b w.heap.size with hlt | hge
        · rw [(keep b hlt hf).2.1] at h1b; cases h1b
        · cases hx : h.t b with
          | none => rfl
          | some o => exact absurd (hr.tblock hx) (Nat.not_lt.2 hge)
      · rw [htN b hf]; exact k3
    | none =>
      by_cases hf : h1.free b
      · rw [hm1 b hf h1b] at hb
        obtain ⟨k1, k2, k3, k4⟩ := keep b (hr.block hb) hf
        obtain ⟨⟨x, j1, j2⟩, j3, j4⟩ := hr.mm b o hb
        exact ⟨⟨x, by rw [k1]; exact j1, j2.mono hi.le⟩, fun i => by rw [k4, j3], by rw [ht1 b hf k3]; exact j4⟩
      · rw [hmN b hf, h1b] at hb; cases hb
  · intro b e hb
    cases h1b : h1'.t b with
    | some e' =>
      rw [htS b e' h1b] at hb; cases hb
      exact hi.rel.tt b _ h1b
    | none =>
      by_cases hf : h1.free b
      · rw [ht1 b hf h1b] at hb
        obtain ⟨k1, k2, k3, k4⟩ := keep b (hr.tblock hb) hf
        obtain ⟨⟨l, vs', T, j1, j2, j3⟩, j4⟩ := hr.tt b e hb
        exact ⟨⟨l, vs', T, hi.le.lim _ _ j1, by rw [k1]; exact j2, j3⟩, fun i hie => by rw [k4]; exact j4 i hie⟩
      · rw [htN b hf, h1b] at hb; cases hb
  · intro b hb hm ht
    have hf : h1.free b := by
      constructor
      · cases hx : h1.m b with
        | none => rfl
        | some o => have := hle.1 b o hx; rw [hm] at this; cases this
      · cases hx : h1.t b with
        | none => rfl
        | some o => have := hle.2 b o hx; rw [ht] at this; cases this
    obtain ⟨k1, k2, k3, k4⟩ := keep b hb hf
    exact ⟨k1, by rw [hm1 b hf k2]; exact hm, by rw [ht1 b hf k3]; exact ht, k4⟩

/-- A part of the heap. -/
def H.only (h : H) (ids : List Nat) : H := ⟨fun b => if b ∈ ids then h.m b else none, fun b => if b ∈ ids then h.t b else none⟩
theorem H.only_le (h : H) (ids : List Nat) : (h.only ids).le h :=
  ⟨fun b o hb => by simp only [H.only] at hb; split at hb <;> first | exact hb | (cases hb), fun b o hb => by simp only [H.only] at hb; split at hb <;> first | exact hb | (cases hb)⟩
theorem H.only_free {h : H} {ids : List Nat} {b : Nat} (hb : b ∉ ids) : (h.only ids).free b := ⟨by simp [H.only, hb], by simp [H.only, hb]⟩
@[simp] theorem H.only_m {h : H} {ids : List Nat} {b : Nat} (hb : b ∈ ids) : (h.only ids).m b = h.m b := by simp [H.only, hb]
@[simp] theorem H.only_t {h : H} {ids : List Nat} {b : Nat} (hb : b ∈ ids) : (h.only ids).t b = h.t b := by simp [H.only, hb]

/-- What a step leaves as it was: all but some blocks; and the new object's blocks are old ones, or were free. -/
structure Stay (h h' : H) (ids ids' : List Nat) : Prop where
  m : ∀ b o, b ∉ ids → h.m b = some o → h'.m b = some o
  t : ∀ b e, b ∉ ids → h.t b = some e → h'.t b = some e
  new : ∀ b ∈ ids', b ∈ ids ∨ h.free b

theorem Stay.refl (h : H) (ids : List Nat) : Stay h h ids ids := ⟨fun _ _ _ h => h, fun _ _ _ h => h, fun _ h => .inl h⟩
theorem Stay.trans {h h' h'' : H} {a b c : List Nat} (s : Stay h h' a b) (s' : Stay h' h'' b c) : Stay h h'' a c where
  m := fun x o hx hm => by
    by_cases hb : x ∈ b
    · rcases s.new x hb with hb | hb
      · exact absurd hb hx
      · rw [hb.1] at hm; cases hm
    · exact s'.m x o hb (s.m x o hx hm)
  t := fun x o hx hm => by
    by_cases hb : x ∈ b
    · rcases s.new x hb with hb | hb
      · exact absurd hb hx
      · rw [hb.2] at hm; cases hm
    · exact s'.t x o hb (s.t x o hx hm)
  new := fun x hx => by
    rcases s'.new x hx with h1 | h1
    · exact s.new x h1
    · by_cases ha : x ∈ a
      · exact .inl ha
      · right
        constructor
        · cases hm : h.m x with
          | none => rfl
          | some o => have := s.m x o ha hm; rw [h1.1] at this; cases this
        · cases hm : h.t x with
          | none => rfl
          | some o => have := s.t x o ha hm; rw [h1.2] at this; cases this

/-- An object: what it says of the heap it says of its blocks alone; and all of them lie there. -/
structure Obj' (X : H → List Nat → Prop) : Prop where
  le : ∀ h h' ids, X h ids → (∀ b ∈ ids, (∀ o, h.m b = some o → h'.m b = some o) ∧ (∀ e, h.t b = some e → h'.t b = some e)) → X h' ids
  lie : ∀ h ids, X h ids → ∀ b ∈ ids, ¬ h.free b

/-- A call over an object leaves all else. -/
theorem ACall.stay {X : H → List Nat → Prop} {Y : AV → H → List Nat → Prop} (hX : Obj' X) (hY : ∀ v, Obj' (Y v)) {ids : List Nat} (hx : X h ids)
    (hc : ∀ h, X h ids → ACall P gl f args h fun v h' => ∃ ids', Y v h' ids') (hq : ∀ v h' ids', Y v h' ids' → Stay h h' ids ids' → Q v h') : ACall P gl f args h Q := by
  have hx1 : X (h.only ids) ids := hX.le _ _ _ hx fun b hb => ⟨fun o ho => by rw [H.only_m hb]; exact ho, fun o ho => by rw [H.only_t hb]; exact ho⟩
  refine ACall.frame (hc _ hx1) (h.only_le ids) ?_
  rintro v h1' h' ⟨ids', hy⟩ e
  refine hq v h' ids' ((hY v).le _ _ _ hy fun b _ => ⟨e.le.1 b, e.le.2 b⟩) ⟨fun b o hb hm => (e.m b o hm (H.only_free hb)).1, fun b o hb hm => (e.t b o hm (H.only_free hb)).1, fun b hb => ?_⟩
  rcases e.new b ((hY v).lie _ _ hy b hb) with h1 | h1
  · left
    exact Classical.byContradiction fun hn => h1 (H.only_free hn)
  · exact .inr h1

/-- An object of other blocks is as it was. -/
theorem Stay.other {X : H → List Nat → Prop} (hX : Obj' X) {h h' : H} {ids ids' js : List Nat} (s : Stay h h' ids ids') (hx : X h js) (hd : ∀ b ∈ js, b ∉ ids) : X h' js ∧ ∀ b ∈ js, b ∉ ids' := by
  refine ⟨hX.le _ _ _ hx fun b hb => ⟨fun o => s.m b o (hd b hb), fun o => s.t b o (hd b hb)⟩, fun b hb hi => ?_⟩
  rcases s.new b hi with h1 | h1
  · exact hd b hb h1
  · exact hX.lie _ _ hx b hb h1
end Go.AM

namespace Go.AM
open Go

def tdB (u : Option TypeDesc) : TD → Bool
  | .int k => (match u with | some (.int k') => decide (k' = k) | _ => false)
  | .bool => (match u with | some .bool => true | _ => false)
  | .str => (match u with | some .string => true | _ => false)
  | .flt k => (match u with | some (.float k') => decide (k' = k) | _ => false)
  | .slice e => (match u with | some (.slice e') => decide (e' = e) | _ => false)
  | .arr n e => (match u with | some (.array n' e') => decide (n' = n) && decide (e' = e) | _ => false)
  | .ptr e => (match u with | some (.pointer e') => decide (e' = e) | _ => false)
  | .map k e => (match u with | some (.map k' e') => decide (k' = k) && decide (e' = e) | _ => false)
  | .strct fs => (match u with | some (.struct F) => decide (F.toList.map (fun f => (f.offset, f.type)) = fs) | _ => false)
  | .iface => (match u with | some (.interface _) => true | _ => false)
  | .func => (match u with | some (.func _ _ _) => true | _ => false)
  | .tup ts => (match u with | some (.tuple x) => decide (x.toList = ts) | _ => false)
  | .other => true

theorem tdB_ok {P : Program} {t : TypeId} {d : TD} (h : tdB (P.underlying t) d = true) : TDok P t d := by
  cases d <;> simp only [tdB, TDok] at h ⊢ <;> split at h <;> simp_all

def tiB (P : Program) (t : TypeId) (i : TI) : Bool :=
  tdB (P.underlying t) i.d && (match P.info? t with | some x => decide (x.size = i.size) && decide (x.bytes = i.bytes) | none => i.d.isOther && i.zero.isJunk) &&
  (i.agg || i.d.isOther || decide (i.size = 1)) && (match zv i.zero with | some z => decide (z.cells.size = i.size) | none => i.zero.isJunk)

def tisB (P : Program) : Nat → List TI → Bool
  | _, [] => true
  | t, i :: r => tiB P t i && tisB P (t + 1) r

def zL (P : Program) : Nat → List TI → List (Option Value)
  | _, [] => []
  | t, i :: r => (match i.zero.isJunk with | true => none | false => (P.info? t).bind (·.zero)) :: zL P (t + 1) r
def zR : List TI → List (Option Value)
  | [] => []
  | i :: r => (match i.zero.isJunk with | true => none | false => zv i.zero) :: zR r

theorem tisB_get {P : Program} : ∀ {l : List TI} {s k : Nat} {i : TI}, tisB P s l = true → l[k]? = some i → tiB P (s + k) i = true
  | [], _, _, _, _, h => by simp at h
  | a :: l, s, 0, i, h, hi => by
    simp only [tisB, Bool.and_eq_true] at h
    simp at hi; subst hi; exact h.1
  | a :: l, s, k + 1, i, h, hi => by
    simp only [tisB, Bool.and_eq_true] at h
    have := tisB_get (s := s + 1) (k := k) h.2 (by simpa using hi)
    rw [show s + (k + 1) = s + 1 + k by omega]; exact this

theorem z_get {P : Program} : ∀ {l : List TI} {s k : Nat} {i : TI}, zL P s l = zR l → l[k]? = some i → i.zero.isJunk = false → (P.info? (s + k)).bind (·.zero) = zv i.zero
  | [], _, _, _, _, h, _ => by simp at h
  | a :: l, s, 0, i, h, hi, hj => by
    simp only [zL, zR, List.cons.injEq] at h
    simp at hi; subst hi
    have := h.1
    rw [hj] at this; exact this
  | a :: l, s, k + 1, i, h, hi, hj => by
    simp only [zL, zR, List.cons.injEq] at h
    have := z_get (s := s + 1) (k := k) h.2 (by simpa using hi) hj
    rw [show s + (k + 1) = s + 1 + k by omega]; exact this

theorem tyOK_of_check {cx : Cx} (h1 : tisB cx.P 0 cx.tt = true) (h2 : zL cx.P 0 cx.tt = zR cx.tt) : TyOK cx := by
  refine tyOK_of fun t i hi => ?_
  have hb := tisB_get (s := 0) h1 hi
  have hz := z_get (s := 0) h2 hi
  rw [Nat.zero_add] at hb hz
  simp only [tiB, Bool.and_eq_true] at hb
  obtain ⟨⟨⟨b1, b2⟩, b3⟩, b4⟩ := hb
  refine ⟨tdB_ok b1, fun ho => ?_, fun ha ho => ?_, fun x hx hj => ?_, fun hj => ?_⟩
  · split at b2
    · rename_i x hx
      simp only [Bool.and_eq_true, decide_eq_true_eq] at b2
      exact ⟨x, hx, b2⟩
    · simp [ho] at b2
  · simpa [ha, ho] using b3
  · rw [hx] at b2
    simp only [Bool.and_eq_true, decide_eq_true_eq] at b2
    exact b2.2
  · have hz := hz hj
    split at b2
    · rename_i x hx
      simp only [Bool.and_eq_true, decide_eq_true_eq] at b2
      split at b4
      · rename_i z hzv
        refine ⟨x, z, hx, b2.1, ?_, by simpa using b4, fun g => zv_vr hzv⟩
        rw [hx, hzv] at hz; simpa using hz
      · rw [hj] at b4; cases b4
    · simp [hj] at b2
end Go.AM

namespace Go.AM
open Go
def tt0 : TI := ⟨(.tup []), 1, 0, (.junk), [.O]⟩
def tt1 : TI := ⟨.func, 1, 8, (.nilF), [.O]⟩
def tt2 : TI := ⟨(.int .i64), 1, 8, (.int .i64 0), [.I .i64]⟩
def tt3 : TI := ⟨(.int .i64), 1, 8, (.int .i64 0), [.I .i64]⟩
def tt4 : TI := ⟨.bool, 1, 1, (.bool false), [.B]⟩
def tt5 : TI := ⟨(.int .u8), 1, 1, (.int .u8 0), [.I .u8]⟩
def tt6 : TI := ⟨(.int .u8), 1, 1, (.int .u8 0), [.I .u8]⟩
def tt7 : TI := ⟨(.strct [(0, 2), (1, 3), (2, 4), (3, 6)]), 4, 24, (.agg [.int .i64 0, .int .i64 0, .bool false, .int .u8 0]), [.I .i64, .I .i64, .B, .I .u8]⟩
def tt8 : TI := ⟨(.strct [(0, 2), (1, 3), (2, 4), (3, 6)]), 4, 24, (.agg [.int .i64 0, .int .i64 0, .bool false, .int .u8 0]), [.I .i64, .I .i64, .B, .I .u8]⟩
def tt9 : TI := ⟨.str, 1, 16, (.str []), [.S]⟩
def tt10 : TI := ⟨.str, 1, 16, (.str []), [.S]⟩
def tt11 : TI := ⟨.str, 1, 16, (.str []), [.S]⟩
def tt12 : TI := ⟨(.int .u64), 1, 8, (.int .u64 0), [.I .u64]⟩
def tt13 : TI := ⟨(.strct [(0, 9), (1, 12)]), 2, 24, (.agg [.str [], .int .u64 0]), [.S, .I .u64]⟩
def tt14 : TI := ⟨(.strct [(0, 9), (1, 12)]), 2, 24, (.agg [.str [], .int .u64 0]), [.S, .I .u64]⟩
def tt15 : TI := ⟨(.ptr 187), 1, 8, (.ptr none), [.O]⟩
def tt16 : TI := ⟨(.ptr 190), 1, 8, (.ptr none), [.O]⟩
def tt17 : TI := ⟨(.ptr 197), 1, 8, (.ptr none), [.O]⟩
def tt18 : TI := ⟨(.strct [(0, 17)]), 1, 8, (.agg [.ptr none]), [.O]⟩
def tt19 : TI := ⟨(.strct [(0, 17)]), 1, 8, (.agg [.ptr none]), [.O]⟩
def tt20 : TI := ⟨.iface, 1, 16, (.nilI), [.O]⟩
def tt21 : TI := ⟨(.int .i32), 1, 4, (.int .i32 0), [.I .i32]⟩
def tt22 : TI := ⟨(.ptr 54), 1, 8, (.ptr none), [.O]⟩
def tt23 : TI := ⟨(.int .i64), 1, 8, (.int .i64 0), [.I .i64]⟩
def tt24 : TI := ⟨(.tup [22, 23]), 1, 0, (.junk), [.O]⟩
def tt25 : TI := ⟨.func, 1, 8, (.nilF), [.O]⟩
def tt26 : TI := ⟨(.tup [9, 4]), 1, 0, (.junk), [.O]⟩
def tt27 : TI := ⟨.func, 1, 8, (.nilF), [.O]⟩
def tt28 : TI := ⟨.func, 1, 8, (.nilF), [.O]⟩
def tt29 : TI := ⟨.func, 1, 8, (.nilF), [.O]⟩
def tt30 : TI := ⟨(.strct [(0, 9), (1, 9), (2, 4)]), 3, 40, (.agg [.str [], .str [], .bool false]), [.S, .S, .B]⟩
def tt31 : TI := ⟨(.strct [(0, 9), (1, 9), (2, 4)]), 3, 40, (.agg [.str [], .str [], .bool false]), [.S, .S, .B]⟩
def tt32 : TI := ⟨(.slice 9), 1, 24, (.lst .full 1 []), [.O]⟩
def tt33 : TI := ⟨.func, 1, 8, (.nilF), [.O]⟩
def tt34 : TI := ⟨.func, 1, 8, (.nilF), [.O]⟩
def tt35 : TI := ⟨.func, 1, 8, (.nilF), [.O]⟩
def tt36 : TI := ⟨(.slice 31), 1, 24, (.lst .full 3 []), [.O]⟩
def tt37 : TI := ⟨.func, 1, 8, (.nilF), [.O]⟩
def tt38 : TI := ⟨(.ptr 67), 1, 8, (.ptr none), [.O]⟩
def tt39 : TI := ⟨.func, 1, 8, (.nilF), [.O]⟩
def tt40 : TI := ⟨.func, 1, 8, (.nilF), [.O]⟩
def tt41 : TI := ⟨(.slice 69), 1, 24, (.lst .full 2 []), [.O]⟩
def tt42 : TI := ⟨.func, 1, 8, (.nilF), [.O]⟩
def tt43 : TI := ⟨(.slice 36), 1, 24, (.lst .full 1 []), [.O]⟩
def tt44 : TI := ⟨(.int .u64), 1, 8, (.int .u64 0), [.I .u64]⟩
def tt45 : TI := ⟨.func, 1, 8, (.nilF), [.O]⟩
def tt46 : TI := ⟨.func, 1, 8, (.nilF), [.O]⟩
def tt47 : TI := ⟨.func, 1, 8, (.nilF), [.O]⟩
def tt48 : TI := ⟨(.ptr 82), 1, 8, (.ptr none), [.O]⟩
def tt49 : TI := ⟨(.slice 55), 1, 24, (.lst .full 1 []), [.O]⟩
def tt50 : TI := ⟨(.tup [48, 49, 23]), 1, 0, (.junk), [.O]⟩
def tt51 : TI := ⟨.func, 1, 8, (.nilF), [.O]⟩
def tt52 : TI := ⟨(.map 9 9), 1, 8, (.map none), [.O]⟩
def tt53 : TI := ⟨(.strct [(0, 48), (1, 52)]), 2, 16, (.agg [.ptr none, .map none]), [.O, .O]⟩
def tt54 : TI := ⟨(.strct [(0, 48), (1, 52)]), 2, 16, (.agg [.ptr none, .map none]), [.O, .O]⟩
def tt55 : TI := ⟨(.slice 5), 1, 24, (.lst .full 1 []), [.O]⟩
def tt56 : TI := ⟨.func, 1, 8, (.nilF), [.O]⟩
def tt57 : TI := ⟨.func, 1, 8, (.nilF), [.O]⟩
def tt58 : TI := ⟨.func, 1, 8, (.nilF), [.O]⟩
def tt59 : TI := ⟨.func, 1, 8, (.nilF), [.O]⟩
def tt60 : TI := ⟨.func, 1, 8, (.nilF), [.O]⟩
def tt61 : TI := ⟨.func, 1, 8, (.nilF), [.O]⟩
def tt62 : TI := ⟨.func, 1, 8, (.nilF), [.O]⟩
def tt63 : TI := ⟨.func, 1, 8, (.nilF), [.O]⟩
def tt64 : TI := ⟨(.slice 71), 1, 24, (.lst .full 64 []), [.O]⟩
def tt65 : TI := ⟨(.slice 73), 1, 24, (.lst .full 65 []), [.O]⟩
def tt66 : TI := ⟨(.strct [(0, 64), (1, 65), (2, 3), (3, 4)]), 4, 64, (.agg [.lst .full 64 [], .lst .full 65 [], .int .i64 0, .bool false]), [.O, .O, .I .i64, .B]⟩
def tt67 : TI := ⟨(.strct [(0, 64), (1, 65), (2, 3), (3, 4)]), 4, 64, (.agg [.lst .full 64 [], .lst .full 65 [], .int .i64 0, .bool false]), [.O, .O, .I .i64, .B]⟩
def tt68 : TI := ⟨(.strct [(0, 9), (1, 9)]), 2, 32, (.agg [.str [], .str []]), [.S, .S]⟩
def tt69 : TI := ⟨(.strct [(0, 9), (1, 9)]), 2, 32, (.agg [.str [], .str []]), [.S, .S]⟩
def tt70 : TI := ⟨(.arr 64 5), 64, 64, (.agg (List.replicate 64 (.int .u8 0))), []⟩
def tt71 : TI := ⟨(.arr 64 5), 64, 64, (.agg (List.replicate 64 (.int .u8 0))), []⟩
def tt72 : TI := ⟨(.strct [(0, 3), (1, 71)]), 65, 72, (.agg [.int .i64 0, .int .u8 0, .int .u8 0, .int .u8 0, .int .u8 0, .int .u8 0, .int .u8 0, .int .u8 0, .int .u8 0, .int .u8 0, .int .u8 0, .int .u8 0, .int .u8 0, .int .u8 0, .int .u8 0, .int .u8 0, .int .u8 0, .int .u8 0, .int .u8 0, .int .u8 0, .int .u8 0, .int .u8 0, .int .u8 0, .int .u8 0, .int .u8 0, .int .u8 0, .int .u8 0, .int .u8 0, .int .u8 0, .int .u8 0, .int .u8 0, .int .u8 0, .int .u8 0, .int .u8 0, .int .u8 0, .int .u8 0, .int .u8 0, .int .u8 0, .int .u8 0, .int .u8 0, .int .u8 0, .int .u8 0, .int .u8 0, .int .u8 0, .int .u8 0, .int .u8 0, .int .u8 0, .int .u8 0, .int .u8 0, .int .u8 0, .int .u8 0, .int .u8 0, .int .u8 0, .int .u8 0, .int .u8 0, .int .u8 0, .int .u8 0, .int .u8 0, .int .u8 0, .int .u8 0, .int .u8 0, .int .u8 0, .int .u8 0, .int .u8 0, .int .u8 0]), []⟩
def tt73 : TI := ⟨(.strct [(0, 3), (1, 71)]), 65, 72, (.agg [.int .i64 0, .int .u8 0, .int .u8 0, .int .u8 0, .int .u8 0, .int .u8 0, .int .u8 0, .int .u8 0, .int .u8 0, .int .u8 0, .int .u8 0, .int .u8 0, .int .u8 0, .int .u8 0, .int .u8 0, .int .u8 0, .int .u8 0, .int .u8 0, .int .u8 0, .int .u8 0, .int .u8 0, .int .u8 0, .int .u8 0, .int .u8 0, .int .u8 0, .int .u8 0, .int .u8 0, .int .u8 0, .int .u8 0, .int .u8 0, .int .u8 0, .int .u8 0, .int .u8 0, .int .u8 0, .int .u8 0, .int .u8 0, .int .u8 0, .int .u8 0, .int .u8 0, .int .u8 0, .int .u8 0, .int .u8 0, .int .u8 0, .int .u8 0, .int .u8 0, .int .u8 0, .int .u8 0, .int .u8 0, .int .u8 0, .int .u8 0, .int .u8 0, .int .u8 0, .int .u8 0, .int .u8 0, .int .u8 0, .int .u8 0, .int .u8 0, .int .u8 0, .int .u8 0, .int .u8 0, .int .u8 0, .int .u8 0, .int .u8 0, .int .u8 0, .int .u8 0]), []⟩
def tt74 : TI := ⟨.func, 1, 8, (.nilF), [.O]⟩
def tt75 : TI := ⟨.func, 1, 8, (.nilF), [.O]⟩
def tt76 : TI := ⟨(.tup [3, 3]), 1, 0, (.junk), [.O]⟩
def tt77 : TI := ⟨.func, 1, 8, (.nilF), [.O]⟩
def tt78 : TI := ⟨(.tup [49, 3]), 1, 0, (.junk), [.O]⟩
def tt79 : TI := ⟨.func, 1, 8, (.nilF), [.O]⟩
def tt80 : TI := ⟨.func, 1, 8, (.nilF), [.O]⟩
def tt81 : TI := ⟨(.strct [(0, 38), (1, 3), (2, 3), (3, 4)]), 4, 32, (.agg [.ptr none, .int .i64 0, .int .i64 0, .bool false]), [.O, .I .i64, .I .i64, .B]⟩
def tt82 : TI := ⟨(.strct [(0, 38), (1, 3), (2, 3), (3, 4)]), 4, 32, (.agg [.ptr none, .int .i64 0, .int .i64 0, .bool false]), [.O, .I .i64, .I .i64, .B]⟩
def tt83 : TI := ⟨(.tup [32, 4]), 1, 0, (.junk), [.O]⟩
def tt84 : TI := ⟨.func, 1, 8, (.nilF), [.O]⟩
def tt85 : TI := ⟨.func, 1, 8, (.nilF), [.O]⟩
def tt86 : TI := ⟨.func, 1, 8, (.nilF), [.O]⟩
def tt87 : TI := ⟨.func, 1, 8, (.nilF), [.O]⟩
def tt88 : TI := ⟨.func, 1, 8, (.nilF), [.O]⟩
def tt89 : TI := ⟨.func, 1, 8, (.nilF), [.O]⟩
def tt90 : TI := ⟨.func, 1, 8, (.nilF), [.O]⟩
def tt91 : TI := ⟨.func, 1, 8, (.nilF), [.O]⟩
def tt92 : TI := ⟨(.tup [55, 23]), 1, 0, (.junk), [.O]⟩
def tt93 : TI := ⟨.func, 1, 8, (.nilF), [.O]⟩
def tt94 : TI := ⟨(.int .u32), 1, 4, (.int .u32 0), [.I .u32]⟩
def tt95 : TI := ⟨.func, 1, 8, (.nilF), [.O]⟩
def tt96 : TI := ⟨.func, 1, 8, (.nilF), [.O]⟩
def tt97 : TI := ⟨.func, 1, 8, (.nilF), [.O]⟩
def tt98 : TI := ⟨.func, 1, 8, (.nilF), [.O]⟩
def tt99 : TI := ⟨(.tup [55, 4]), 1, 0, (.junk), [.O]⟩
def tt100 : TI := ⟨.func, 1, 8, (.nilF), [.O]⟩
def tt101 : TI := ⟨.func, 1, 8, (.nilF), [.O]⟩
def tt102 : TI := ⟨.func, 1, 8, (.nilF), [.O]⟩
def tt103 : TI := ⟨.func, 1, 8, (.nilF), [.O]⟩
def tt104 : TI := ⟨(.tup [9, 9, 4]), 1, 0, (.junk), [.O]⟩
def tt105 : TI := ⟨.func, 1, 8, (.nilF), [.O]⟩
def tt106 : TI := ⟨.iface, 1, 16, (.nilI), [.O]⟩
def tt107 : TI := ⟨.iface, 1, 16, (.nilI), [.O]⟩
def tt108 : TI := ⟨(.tup [3, 107]), 1, 0, (.junk), [.O]⟩
def tt109 : TI := ⟨.func, 1, 8, (.nilF), [.O]⟩
def tt110 : TI := ⟨.func, 1, 8, (.nilF), [.O]⟩
def tt111 : TI := ⟨.func, 1, 8, (.nilF), [.O]⟩
def tt112 : TI := ⟨(.ptr 114), 1, 8, (.ptr none), [.O]⟩
def tt113 : TI := ⟨(.strct [(0, 112), (1, 55)]), 2, 32, (.agg [.ptr none, .lst .full 1 []]), [.O, .O]⟩
def tt114 : TI := ⟨(.strct [(0, 112), (1, 55)]), 2, 32, (.agg [.ptr none, .lst .full 1 []]), [.O, .O]⟩
def tt115 : TI := ⟨.func, 1, 8, (.nilF), [.O]⟩
def tt116 : TI := ⟨.func, 1, 8, (.nilF), [.O]⟩
def tt117 : TI := ⟨(.tup [3, 23]), 1, 0, (.junk), [.O]⟩
def tt118 : TI := ⟨.func, 1, 8, (.nilF), [.O]⟩
def tt119 : TI := ⟨.func, 1, 8, (.nilF), [.O]⟩
def tt120 : TI := ⟨.func, 1, 8, (.nilF), [.O]⟩
def tt121 : TI := ⟨.func, 1, 8, (.nilF), [.O]⟩
def tt122 : TI := ⟨(.int .u64), 1, 8, (.int .u64 0), [.I .u64]⟩
def tt123 : TI := ⟨(.slice 3), 1, 24, (.lst .full 1 []), [.O]⟩
def tt124 : TI := ⟨.func, 1, 8, (.nilF), [.O]⟩
def tt125 : TI := ⟨.func, 1, 8, (.nilF), [.O]⟩
def tt126 : TI := ⟨.func, 1, 8, (.nilF), [.O]⟩
def tt127 : TI := ⟨.func, 1, 8, (.nilF), [.O]⟩
def tt128 : TI := ⟨.func, 1, 8, (.nilF), [.O]⟩
def tt129 : TI := ⟨.func, 1, 8, (.nilF), [.O]⟩
def tt130 : TI := ⟨.func, 1, 8, (.nilF), [.O]⟩
def tt131 : TI := ⟨.func, 1, 8, (.nilF), [.O]⟩
def tt132 : TI := ⟨(.ptr 5), 1, 8, (.ptr none), [.O]⟩
def tt133 : TI := ⟨.func, 1, 8, (.nilF), [.O]⟩
def tt134 : TI := ⟨(.int .i64), 1, 8, (.int .i64 0), [.I .i64]⟩
def tt135 : TI := ⟨(.tup [3, 134]), 1, 0, (.junk), [.O]⟩
def tt136 : TI := ⟨.func, 1, 8, (.nilF), [.O]⟩
def tt137 : TI := ⟨.func, 1, 8, (.nilF), [.O]⟩
def tt138 : TI := ⟨.func, 1, 8, (.nilF), [.O]⟩
def tt139 : TI := ⟨(.tup [3, 4]), 1, 0, (.junk), [.O]⟩
def tt140 : TI := ⟨.func, 1, 8, (.nilF), [.O]⟩
def tt141 : TI := ⟨.func, 1, 8, (.nilF), [.O]⟩
def tt142 : TI := ⟨.func, 1, 8, (.nilF), [.O]⟩
def tt143 : TI := ⟨.func, 1, 8, (.nilF), [.O]⟩
def tt144 : TI := ⟨.func, 1, 8, (.nilF), [.O]⟩
def tt145 : TI := ⟨.func, 1, 8, (.nilF), [.O]⟩
def tt146 : TI := ⟨(.int .i64), 1, 8, (.int .i64 0), [.I .i64]⟩
def tt147 : TI := ⟨(.tup [2, 107]), 1, 0, (.junk), [.O]⟩
def tt148 : TI := ⟨.func, 1, 8, (.nilF), [.O]⟩
def tt149 : TI := ⟨(.ptr 167), 1, 8, (.ptr none), [.O]⟩
def tt150 : TI := ⟨.func, 1, 8, (.nilF), [.O]⟩
def tt151 : TI := ⟨.func, 1, 8, (.nilF), [.O]⟩
def tt152 : TI := ⟨.func, 1, 8, (.nilF), [.O]⟩
def tt153 : TI := ⟨.other, 1, 8, (.ptr none), [.O]⟩
def tt154 : TI := ⟨.func, 1, 8, (.nilF), [.O]⟩
def tt155 : TI := ⟨(.int .u64), 1, 8, (.int .u64 0), [.I .u64]⟩
def tt156 : TI := ⟨.func, 1, 8, (.nilF), [.O]⟩
def tt157 : TI := ⟨.func, 1, 8, (.nilF), [.O]⟩
def tt158 : TI := ⟨.func, 1, 8, (.nilF), [.O]⟩
def tt159 : TI := ⟨(.ptr 3), 1, 8, (.ptr none), [.O]⟩
def tt160 : TI := ⟨.func, 1, 8, (.nilF), [.O]⟩
def tt161 : TI := ⟨.func, 1, 8, (.nilF), [.O]⟩
def tt162 : TI := ⟨.func, 1, 8, (.nilF), [.O]⟩
def tt163 : TI := ⟨(.tup [44, 107]), 1, 0, (.junk), [.O]⟩
def tt164 : TI := ⟨.func, 1, 8, (.nilF), [.O]⟩
def tt165 : TI := ⟨.func, 1, 8, (.nilF), [.O]⟩
def tt166 : TI := ⟨(.strct [(0, 9), (1, 9), (2, 107)]), 3, 48, (.agg [.str [], .str [], .nilI]), [.S, .S, .O]⟩
def tt167 : TI := ⟨(.strct [(0, 9), (1, 9), (2, 107)]), 3, 48, (.agg [.str [], .str [], .nilI]), [.S, .S, .O]⟩
def tt168 : TI := ⟨.func, 1, 8, (.nilF), [.O]⟩
def tt169 : TI := ⟨(.arr 24 5), 24, 24, (.agg (List.replicate 24 (.int .u8 0))), [.I .u8, .I .u8, .I .u8, .I .u8, .I .u8, .I .u8, .I .u8, .I .u8, .I .u8, .I .u8, .I .u8, .I .u8, .I .u8, .I .u8, .I .u8, .I .u8, .I .u8, .I .u8, .I .u8, .I .u8, .I .u8, .I .u8, .I .u8, .I .u8]⟩
def tt170 : TI := ⟨.func, 1, 8, (.nilF), [.O]⟩
def tt171 : TI := ⟨(.tup [55, 9]), 1, 0, (.junk), [.O]⟩
def tt172 : TI := ⟨.func, 1, 8, (.nilF), [.O]⟩
def tt173 : TI := ⟨(.ptr 155), 1, 8, (.ptr none), [.O]⟩
def tt174 : TI := ⟨.func, 1, 8, (.nilF), [.O]⟩
def tt175 : TI := ⟨(.tup [94, 94]), 1, 0, (.junk), [.O]⟩
def tt176 : TI := ⟨.func, 1, 8, (.nilF), [.O]⟩
def tt177 : TI := ⟨.func, 1, 8, (.nilF), [.O]⟩
def tt178 : TI := ⟨.func, 1, 8, (.nilF), [.O]⟩
def tt179 : TI := ⟨(.ptr 181), 1, 8, (.ptr none), [.O]⟩
def tt180 : TI := ⟨(.strct [(0, 9)]), 1, 16, (.agg [.str []]), [.S]⟩
def tt181 : TI := ⟨(.strct [(0, 9)]), 1, 16, (.agg [.str []]), [.S]⟩
def tt182 : TI := ⟨.func, 1, 8, (.nilF), [.O]⟩
def tt183 : TI := ⟨(.arr 20 44), 20, 160, (.agg (List.replicate 20 (.int .u64 0))), [.I .u64, .I .u64, .I .u64, .I .u64, .I .u64, .I .u64, .I .u64, .I .u64, .I .u64, .I .u64, .I .u64, .I .u64, .I .u64, .I .u64, .I .u64, .I .u64, .I .u64, .I .u64, .I .u64, .I .u64]⟩
def tt184 : TI := ⟨(.arr 65 5), 65, 65, (.agg (List.replicate 65 (.int .u8 0))), []⟩
def tt185 : TI := ⟨(.arr 32 5), 32, 32, (.agg (List.replicate 32 (.int .u8 0))), [.I .u8, .I .u8, .I .u8, .I .u8, .I .u8, .I .u8, .I .u8, .I .u8, .I .u8, .I .u8, .I .u8, .I .u8, .I .u8, .I .u8, .I .u8, .I .u8, .I .u8, .I .u8, .I .u8, .I .u8, .I .u8, .I .u8, .I .u8, .I .u8, .I .u8, .I .u8, .I .u8, .I .u8, .I .u8, .I .u8, .I .u8, .I .u8]⟩
def tt186 : TI := ⟨(.strct [(0, 17), (1, 17), (2, 17), (3, 9)]), 4, 40, (.agg [.ptr none, .ptr none, .ptr none, .str []]), [.O, .O, .O, .S]⟩
def tt187 : TI := ⟨(.strct [(0, 17), (1, 17), (2, 17), (3, 9)]), 4, 40, (.agg [.ptr none, .ptr none, .ptr none, .str []]), [.O, .O, .O, .S]⟩
def tt188 : TI := ⟨(.arr 0 16), 0, 0, (.agg (List.replicate 0 (.ptr none))), []⟩
def tt189 : TI := ⟨(.strct [(0, 188)]), 0, 0, (.agg []), []⟩
def tt190 : TI := ⟨(.strct [(0, 188)]), 0, 0, (.agg []), []⟩
def tt191 : TI := ⟨(.int .u8), 1, 1, (.int .u8 0), [.I .u8]⟩
def tt192 : TI := ⟨(.int .u8), 1, 1, (.int .u8 0), [.I .u8]⟩
def tt193 : TI := ⟨.func, 1, 8, (.nilF), [.O]⟩
def tt194 : TI := ⟨(.int .i32), 1, 4, (.int .i32 0), [.I .i32]⟩
def tt195 : TI := ⟨(.int .i32), 1, 4, (.int .i32 0), [.I .i32]⟩
def tt196 : TI := ⟨(.strct [(0, 12), (1, 12), (2, 94), (3, 191), (4, 5), (5, 5), (6, 192), (7, 193), (8, 132), (9, 194), (10, 195)]), 11, 48, (.agg [.int .u64 0, .int .u64 0, .int .u32 0, .int .u8 0, .int .u8 0, .int .u8 0, .int .u8 0, .nilF, .ptr none, .int .i32 0, .int .i32 0]), [.I .u64, .I .u64, .I .u32, .I .u8, .I .u8, .I .u8, .I .u8, .O, .O, .I .i32, .I .i32]⟩
def tt197 : TI := ⟨(.strct [(0, 12), (1, 12), (2, 94), (3, 191), (4, 5), (5, 5), (6, 192), (7, 193), (8, 132), (9, 194), (10, 195)]), 11, 48, (.agg [.int .u64 0, .int .u64 0, .int .u32 0, .int .u8 0, .int .u8 0, .int .u8 0, .int .u8 0, .nilF, .ptr none, .int .i32 0, .int .i32 0]), [.I .u64, .I .u64, .I .u32, .I .u8, .I .u8, .I .u8, .I .u8, .O, .O, .I .i32, .I .i32]⟩
def tts : List TI := [tt0, tt1, tt2, tt3, tt4, tt5, tt6, tt7, tt8, tt9, tt10, tt11, tt12, tt13, tt14, tt15, tt16, tt17, tt18, tt19, tt20, tt21, tt22, tt23, tt24, tt25, tt26, tt27, tt28, tt29, tt30, tt31, tt32, tt33, tt34, tt35, tt36, tt37, tt38, tt39, tt40, tt41, tt42, tt43, tt44, tt45, tt46, tt47, tt48, tt49, tt50, tt51, tt52, tt53, tt54, tt55, tt56, tt57, tt58, tt59, tt60, tt61, tt62, tt63, tt64, tt65, tt66, tt67, tt68, tt69, tt70, tt71, tt72, tt73, tt74, tt75, tt76, tt77, tt78, tt79, tt80, tt81, tt82, tt83, tt84, tt85, tt86, tt87, tt88, tt89, tt90, tt91, tt92, tt93, tt94, tt95, tt96, tt97, tt98, tt99, tt100, tt101, tt102, tt103, tt104, tt105, tt106, tt107, tt108, tt109, tt110, tt111, tt112, tt113, tt114, tt115, tt116, tt117, tt118, tt119, tt120, tt121, tt122, tt123, tt124, tt125, tt126, tt127, tt128, tt129, tt130, tt131, tt132, tt133, tt134, tt135, tt136, tt137, tt138, tt139, tt140, tt141, tt142, tt143, tt144, tt145, tt146, tt147, tt148, tt149, tt150, tt151, tt152, tt153, tt154, tt155, tt156, tt157, tt158, tt159, tt160, tt161, tt162, tt163, tt164, tt165, tt166, tt167, tt168, tt169, tt170, tt171, tt172, tt173, tt174, tt175, tt176, tt177, tt178, tt179, tt180, tt181, tt182, tt183, tt184, tt185, tt186, tt187, tt188, tt189, tt190, tt191, tt192, tt193, tt194, tt195, tt196, tt197]
theorem tis_ok : tisB Go.Proofs.Tryz.prog 0 tts = true := by kernel_rfl
theorem zs_ok : zL Go.Proofs.Tryz.prog 0 tts = zR tts := by kernel_rfl
theorem mix_ok : Go.Proofs.Tryz.prog.follows .mixedOrders = true := by kernel_rfl
end Go.AM
