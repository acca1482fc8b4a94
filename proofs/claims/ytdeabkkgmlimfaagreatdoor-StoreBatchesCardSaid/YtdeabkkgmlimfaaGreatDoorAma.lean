/-
  A logic over the model of Go: abstract values and heaps; the transformer of code; steps.
-/
import Derived.Orders
import Derived.Laws.World
import Derived.Laws.Sem
import Derived.Calls
import Derived.WalkKit

set_option linter.unusedVariables false
set_option linter.unusedSimpArgs false

namespace Go.AM
open Go

/-- Who may append to a slice: nobody knows (any), its room is just its length (full), or whoever holds the tail of block b from cell e on. -/
inductive Tag where
  | any
  | full
  | own (b e : Nat)

inductive AV where
  | junk
  | bool (b : Bool)
  | int (k : IntKind) (n : Int)
  | flt (k : FloatKind) (bits : Nat)
  | str (s : List UInt8)
  | ptr (a : Option (Nat × Nat))
  | ept (cs : List AV) (off : Nat)
  | elp (sz : Nat) (xs : List AV) (i off : Nat)
  | lst (t : Tag) (sz : Nat) (xs : List AV)
  | sl (b off len cap : Nat)
  | map (r : Option Nat)
  | fn (f : FuncId) (first caps : List AV)
  | nilF
  | nilI
  | ifc (t : TypeId) (v : AV)
  | agg (cs : List AV)
  | tup (vs : List AV)

def AV.cells : AV → List AV
  | .agg cs => cs
  | v => [v]

/-- One cell of memory can hold it. -/
def AV.one : AV → Bool
  | .agg _ | .tup _ | .junk => false
  | _ => true

def AV.isJunk : AV → Bool
  | .junk => true
  | _ => false

inductive Slot where
  | v (x : AV)
  | lp (i off : Nat)

structure Gh where
  im : Nat → Nat → Option Value
  lim : Nat → Option Nat

def Gh.has (g : Gh) (b o : Nat) (vs : List Value) : Prop := ∀ i v, vs[i]? = some v → g.im b (o + i) = some v

structure Gh.le (g g' : Gh) : Prop where
  im : ∀ b i v, g.im b i = some v → g'.im b i = some v
  lim : ∀ b l, g.lim b = some l → g'.lim b = some l

theorem Gh.le.refl (g : Gh) : g.le g := ⟨fun _ _ _ h => h, fun _ _ h => h⟩
theorem Gh.le.trans {g g' g'' : Gh} (h : g.le g') (h' : g'.le g'') : g.le g'' :=
  ⟨fun _ _ _ x => h'.im _ _ _ (h.im _ _ _ x), fun _ _ x => h'.lim _ _ (h.lim _ _ x)⟩

def Tag.ok (g : Gh) (b o len cap sz : Nat) : Tag → Prop
  | .any => True
  | .full => cap = len
  | .own b' e => b' = b ∧ e = o + len * sz ∧ g.lim b = some (o + cap * sz)

def Tag.nilok : Tag → Prop
  | .own _ _ => False
  | _ => True

mutual
inductive VR (g : Gh) : AV → Value → Prop
  | junk (v : Value) : VR g .junk v
  | bool (b : Bool) : VR g (.bool b) (.bool b)
  | int (k : IntKind) (n : Int) : VR g (.int k n) (.int k n)
  | flt (k : FloatKind) (n : Nat) : VR g (.flt k n) (.float k n)
  | str (s : List UInt8) : VR g (.str s) (.string ⟨s.toArray⟩)
  | nil : VR g (.ptr none) (.pointer none)
  | ptr (b o : Nat) : VR g (.ptr (some (b, o))) (.pointer (some ⟨b, o, none⟩))
  | ept (cs : List AV) (off : Nat) (vs : List Value) (b o : Nat) : VRs g cs vs → g.has b o vs → VR g (.ept cs off) (.pointer (some ⟨b, o + off, none⟩))
  | elp (sz : Nat) (xs : List AV) (i off : Nat) (vs : List Value) (b o : Nat) : VRs g (xs.flatMap AV.cells) vs → (∀ x ∈ xs, x.cells.length = sz) → g.has b o vs →
      VR g (.elp sz xs i off) (.pointer (some ⟨b, o + i * sz + off, none⟩))
  | lstn (t : Tag) (sz : Nat) : t.nilok → VR g (.lst t sz []) (.slice none 0 0)
  | lst (t : Tag) (sz : Nat) (xs : List AV) (vs : List Value) (b o cap : Nat) : VRs g (xs.flatMap AV.cells) vs → (∀ x ∈ xs, x.cells.length = sz) →
      g.has b o vs → t.ok g b o xs.length cap sz → xs.length ≤ cap → VR g (.lst t sz xs) (.slice (some ⟨b, o, none⟩) xs.length cap)
  | sl (b off len cap : Nat) : VR g (.sl b off len cap) (.slice (some ⟨b, off, none⟩) len cap)
  | map (r : Option Nat) : VR g (.map r) (.map r)
  | fn (f : FuncId) (first caps : List AV) (vs ws : List Value) : VRs g first vs → VRs g caps ws → VR g (.fn f first caps) (.func (.func f) vs.toArray ws.toArray)
  | nilF : VR g .nilF .nilFunc
  | nilI : VR g .nilI .nilIface
  | ifc (t : TypeId) (a : AV) (v : Value) : VR g a v → VR g (.ifc t a) (.iface t v)
  | agg (cs : List AV) (vs : List Value) : VRs g cs vs → VR g (.agg cs) (.agg vs.toArray)
  | tup (cs : List AV) (vs : List Value) : VRs g cs vs → VR g (.tup cs) (.tuple vs.toArray)
inductive VRs (g : Gh) : List AV → List Value → Prop
  | nil : VRs g [] []
  | cons {a : AV} {v : Value} {as : List AV} {vs : List Value} : VR g a v → VRs g as vs → VRs g (a :: as) (v :: vs)
end

mutual
theorem VR.mono {g g' : Gh} (hle : g.le g') : ∀ {a : AV} {v : Value}, VR g a v → VR g' a v
  | _, _, .junk v => .junk v
  | _, _, .bool b => .bool b
  | _, _, .int k n => .int k n
  | _, _, .flt k n => .flt k n
  | _, _, .str s => .str s
  | _, _, .nil => .nil
  | _, _, .ptr b o => .ptr b o
  | _, _, .ept cs off vs b o h hh => .ept cs off vs b o (VRs.mono hle h) fun i v hv => hle.im _ _ _ (hh i v hv)
  | _, _, .elp sz xs i off vs b o h hs hh => .elp sz xs i off vs b o (VRs.mono hle h) hs fun i v hv => hle.im _ _ _ (hh i v hv)
  | _, _, .lstn t sz h => .lstn t sz h
  | _, _, .lst t sz xs vs b o cap h hs hh ht hc => .lst t sz xs vs b o cap (VRs.mono hle h) hs (fun i v hv => hle.im _ _ _ (hh i v hv))
      (match t, ht with
        | .any, _ => trivial
        | .full, h => h
        | .own _ _, ⟨h1, h2, h3⟩ => ⟨h1, h2, hle.lim _ _ h3⟩) hc
  | _, _, .sl b off len cap => .sl b off len cap
  | _, _, .map r => .map r
  | _, _, .fn f a b vs ws h1 h2 => .fn f a b vs ws (VRs.mono hle h1) (VRs.mono hle h2)
  | _, _, .nilF => .nilF
  | _, _, .nilI => .nilI
  | _, _, .ifc t a v h => .ifc t a v (VR.mono hle h)
  | _, _, .agg cs vs h => .agg cs vs (VRs.mono hle h)
  | _, _, .tup cs vs h => .tup cs vs (VRs.mono hle h)
theorem VRs.mono {g g' : Gh} (hle : g.le g') : ∀ {as : List AV} {vs : List Value}, VRs g as vs → VRs g' as vs
  | _, _, .nil => .nil
  | _, _, .cons h hs => .cons (VR.mono hle h) (VRs.mono hle hs)
end

section
variable {g : Gh}
theorem VRs.length : ∀ {as : List AV} {vs : List Value}, VRs g as vs → as.length = vs.length
  | _, _, .nil => rfl
  | _, _, .cons _ hs => by simp [hs.length]
theorem VRs.get : ∀ {as : List AV} {vs : List Value}, VRs g as vs → ∀ {i : Nat} {a : AV}, as[i]? = some a → ∃ v, vs[i]? = some v ∧ VR g a v
  | _, _, .nil, i, a, h => by simp at h
  | _, _, .cons h hs, 0, a, he => by simp at he; subst he; exact ⟨_, by simp, h⟩
  | _, _, .cons h hs, i + 1, a, he => by simp at he; obtain ⟨v, hv, hr⟩ := hs.get he; exact ⟨v, by simpa using hv, hr⟩
theorem VRs.get' : ∀ {as : List AV} {vs : List Value}, VRs g as vs → ∀ {i : Nat} {v : Value}, vs[i]? = some v → ∃ a, as[i]? = some a ∧ VR g a v
  | _, _, .nil, i, a, h => by simp at h
  | _, _, .cons h hs, 0, a, he => by simp at he; subst he; exact ⟨_, by simp, h⟩
  | _, _, .cons h hs, i + 1, a, he => by simp at he; obtain ⟨v, hv, hr⟩ := hs.get' he; exact ⟨v, by simpa using hv, hr⟩
theorem VRs.append : ∀ {as : List AV} {vs : List Value} {bs : List AV} {ws : List Value}, VRs g as vs → VRs g bs ws → VRs g (as ++ bs) (vs ++ ws)
  | _, _, _, _, .nil, h => h
  | _, _, _, _, .cons h hs, h' => .cons h (hs.append h')
theorem VRs.set : ∀ {as : List AV} {vs : List Value}, VRs g as vs → ∀ (i : Nat) {a : AV} {v : Value}, VR g a v → VRs g (as.set i a) (vs.set i v)
  | _, _, .nil, i, a, v, _ => by simp; exact .nil
  | _, _, .cons _ hs, 0, a, v, h => .cons h hs
  | _, _, .cons h hs, i + 1, a, v, h' => .cons h (hs.set i h')
theorem VRs.take : ∀ {as : List AV} {vs : List Value}, VRs g as vs → ∀ (n : Nat), VRs g (as.take n) (vs.take n)
  | _, _, .nil, n => by simp; exact .nil
  | _, _, .cons h hs, 0 => by simp; exact .nil
  | _, _, .cons h hs, n + 1 => by simp; exact .cons h (hs.take n)
theorem VRs.drop : ∀ {as : List AV} {vs : List Value}, VRs g as vs → ∀ (n : Nat), VRs g (as.drop n) (vs.drop n)
  | _, _, .nil, n => by simp; exact .nil
  | _, _, .cons h hs, 0 => by simp; exact .cons h hs
  | _, _, .cons h hs, n + 1 => by simp; exact hs.drop n
theorem VRs.of_get {as : List AV} {vs : List Value} (hl : as.length = vs.length) (h : ∀ (i : Nat) (a : AV) (v : Value), as[i]? = some a → vs[i]? = some v → VR g a v) : VRs g as vs := by
  induction as generalizing vs with
  | nil => cases vs with
    | nil => exact .nil
    | cons v vs => simp at hl
  | cons a as ih => cases vs with
    | nil => simp at hl
    | cons v vs => exact .cons (h 0 a v (by simp) (by simp)) (ih (by simpa using hl) fun i a v ha hv => h (i + 1) a v (by simpa using ha) (by simpa using hv))
theorem VR.cells {a : AV} {v : Value} (h : VR g a v) (hj : a ≠ .junk) : VRs g a.cells v.cells.toList := by
  cases h <;> first
    | (exfalso; exact hj rfl)
    | (rename_i h; exact h)
    | exact .cons (by constructor <;> assumption) .nil
theorem VR.one {a : AV} {v : Value} (h : VR g a v) (ho : a.one = true) : v.oneCell' = true := by
  cases h <;> simp_all [AV.one, Value.oneCell']
end

/-- What a block of the abstract heap holds. -/
inductive MObj where
  | cells (e : TypeId) (cs : List AV)
  | map (es : List (AV × AV × Nat)) (clock : Nat)
  | iter (m : Option Nat) (since : Nat) (seen : List Nat) (stepped : Nat)

structure H where
  m : Nat → Option MObj
  t : Nat → Option Nat

def ER (g : Gh) (x : AV × AV × Nat) (e : MapEntry) : Prop := VR g x.1 e.key ∧ VR g x.2.1 e.val ∧ x.2.2 = e.born

inductive ERs (g : Gh) : List (AV × AV × Nat) → List MapEntry → Prop
  | nil : ERs g [] []
  | cons {x : AV × AV × Nat} {e : MapEntry} {xs : List (AV × AV × Nat)} {es : List MapEntry} : ER g x e → ERs g xs es → ERs g (x :: xs) (e :: es)

theorem ERs.mono {g g' : Gh} (hle : g.le g') : ∀ {xs : List (AV × AV × Nat)} {es : List MapEntry}, ERs g xs es → ERs g' xs es
  | _, _, .nil => .nil
  | _, _, .cons h hs => .cons ⟨h.1.mono hle, h.2.1.mono hle, h.2.2⟩ (hs.mono hle)

def OR (g : Gh) : MObj → Obj → Prop
  | .cells e cs, .cells vs e' fz => e' = e ∧ VRs g cs vs.toList ∧ fz = (0, 0)
  | .map es clock, .map es' clock' => clock' = clock ∧ ERs g es es'.toList
  | .iter m since seen stepped, .mapIter m' since' seen' stepped' => m' = m ∧ since' = since ∧ seen'.toList = seen ∧ stepped' = stepped
  | _, _ => False

theorem OR.mono {g g' : Gh} (hle : g.le g') {o : MObj} {x : Obj} (h : OR g o x) : OR g' o x := by
  cases o <;> cases x <;> simp only [OR] at h ⊢ <;> first
    | exact h
    | exact ⟨h.1, h.2.1.mono hle, h.2.2⟩
    | exact ⟨h.1, h.2.mono hle⟩

structure Rel (g : Gh) (h : H) (w : World) : Prop where
  im : ∀ b i v, g.im b i = some v → w.cell? ⟨b, i, none⟩ = some v
  lim : ∀ b l, g.lim b = some l → b < w.heap.size
  mm : ∀ b o, h.m b = some o → (∃ x, w.heap[b]? = some x ∧ OR g o x) ∧ (∀ i, g.im b i = none) ∧ h.t b = none
  tt : ∀ b e, h.t b = some e → (∃ l vs T, g.lim b = some l ∧ w.heap[b]? = some (.cells vs T (0, 0)) ∧ l ≤ vs.size) ∧ ∀ i, e ≤ i → g.im b i = none

/-- How a run from (h0, w0, g0) has come to (h, w, g). -/
structure Inv (h0 : H) (w0 : World) (g0 g : Gh) (h : H) (w : World) : Prop where
  rel : Rel g h w
  le : g0.le g
  size : w0.heap.size ≤ w.heap.size
  tape : w.tape = w0.tape
  os : w.os = w0.os
  output : w.output = w0.output
  keep : ∀ b, b < w0.heap.size → h0.m b = none → h0.t b = none → w.heap[b]? = w0.heap[b]? ∧ h.m b = none ∧ h.t b = none ∧ ∀ i, g.im b i = g0.im b i

theorem Inv.refl {g : Gh} {h : H} {w : World} (hr : Rel g h w) : Inv h w g g h w :=
  ⟨hr, .refl g, Nat.le_refl _, rfl, rfl, rfl, fun _ _ hm ht => ⟨rfl, hm, ht, fun _ => rfl⟩⟩

theorem Inv.trans {h0 h1 h2 : H} {w0 w1 w2 : World} {g0 g1 g2 : Gh} (a : Inv h0 w0 g0 g1 h1 w1) (b : Inv h1 w1 g1 g2 h2 w2) : Inv h0 w0 g0 g2 h2 w2 where
  rel := b.rel
  le := a.le.trans b.le
  size := Nat.le_trans a.size b.size
  tape := b.tape.trans a.tape
  os := b.os.trans a.os
  output := b.output.trans a.output
  keep := fun x hx hm ht => by
    obtain ⟨h1, h2, h3, h4⟩ := a.keep x hx hm ht
    obtain ⟨k1, k2, k3, k4⟩ := b.keep x (Nat.lt_of_lt_of_le hx a.size) h2 h3
    exact ⟨k1.trans h1, k2, k3, fun i => (k4 i).trans (h4 i)⟩

def H.le (h' h : H) : Prop := (∀ b o, h'.m b = some o → h.m b = some o) ∧ (∀ b e, h'.t b = some e → h.t b = some e)

theorem Rel.weaken {g : Gh} {h h' : H} {w : World} (hr : Rel g h w) (hle : h'.le h) : Rel g h' w where
  im := hr.im
  lim := hr.lim
  mm := fun b o hb => by
    obtain ⟨h1, h2, h3⟩ := hr.mm b o (hle.1 b o hb)
    refine ⟨h1, h2, ?_⟩
    cases ht : h'.t b with
    | none => rfl
    | some e => have := hle.2 b e ht; rw [h3] at this; cases this
  tt := fun b e hb => hr.tt b e (hle.2 b e hb)

theorem Inv.weaken {h0 : H} {w0 : World} {g0 g : Gh} {h h' : H} {w : World} (i : Inv h0 w0 g0 g h w) (hle : h'.le h) : Inv h0 w0 g0 g h' w :=
  { i with
    rel := i.rel.weaken hle
    keep := fun b hb hm ht => by
      obtain ⟨h1, h2, h3, h4⟩ := i.keep b hb hm ht
      refine ⟨h1, ?_, ?_, h4⟩
      · cases hx : h'.m b with
        | none => rfl
        | some o => have := hle.1 b o hx; rw [h2] at this; cases this
      · cases hx : h'.t b with
        | none => rfl
        | some o => have := hle.2 b o hx; rw [h3] at this; cases this }

theorem Rel.block {g : Gh} {h : H} {w : World} (hr : Rel g h w) {b : Nat} {o : MObj} (hb : h.m b = some o) : b < w.heap.size := by
  obtain ⟨⟨x, hx, _⟩, _⟩ := hr.mm b o hb
  exact (Array.getElem?_eq_some_iff.1 hx).1
theorem Rel.tblock {g : Gh} {h : H} {w : World} (hr : Rel g h w) {b e : Nat} (hb : h.t b = some e) : b < w.heap.size := by
  obtain ⟨⟨l, vs, T, _, hx, _⟩, _⟩ := hr.tt b e hb
  exact (Array.getElem?_eq_some_iff.1 hx).1
theorem Rel.imblock {g : Gh} {h : H} {w : World} (hr : Rel g h w) {b i : Nat} {v : Value} (hb : g.im b i = some v) : b < w.heap.size :=
  World.block_lt_of_cell? w _ (hr.im b i v hb)

/-- Nothing is known of a block. -/
def H.free (h : H) (n : Nat) : Prop := h.m n = none ∧ h.t n = none
def H.put (h : H) (n : Nat) (o : MObj) : H := { h with m := fun b => if b = n then some o else h.m b }
def H.tput (h : H) (n e : Nat) : H := { h with t := fun b => if b = n then some e else h.t b }
def H.tdel (h : H) (n : Nat) : H := { h with t := fun b => if b = n then none else h.t b }
def H.mdel (h : H) (n : Nat) : H := { h with m := fun b => if b = n then none else h.m b }

theorem Rel.free_new {g : Gh} {h : H} {w : World} (hr : Rel g h w) : h.free w.heap.size := by
  constructor
  · cases hx : h.m w.heap.size with
    | none => rfl
    | some o => exact absurd (hr.block hx) (Nat.lt_irrefl _)
  · cases hx : h.t w.heap.size with
    | none => rfl
    | some o => exact absurd (hr.tblock hx) (Nat.lt_irrefl _)

end Go.AM

namespace Go.AM
open Go

section
variable {h0 h : H} {w0 w : World} {g0 g : Gh} {b : Nat}

theorem Rel.cells (r : Rel g h w) {e : TypeId} {cs : List AV} (hb : h.m b = some (.cells e cs)) :
    ∃ vs, w.heap[b]? = some (.cells vs e (0, 0)) ∧ VRs g cs vs.toList := by
  obtain ⟨⟨x, hx, ho⟩, _⟩ := r.mm b _ hb
  cases x <;> simp only [OR] at ho
  obtain ⟨rfl, h1, rfl⟩ := ho
  exact ⟨_, hx, h1⟩

theorem cell_of {vs : Array Value} {e : TypeId} {fz : Nat × Nat} (hb : w.heap[b]? = some (.cells vs e fz)) (o : Nat) : w.cell? ⟨b, o, none⟩ = vs[o]? := by
  simp [World.cell?, hb]

theorem Rel.cell (r : Rel g h w) {e : TypeId} {cs : List AV} (hb : h.m b = some (.cells e cs)) {o : Nat} {x : AV} (ho : cs[o]? = some x) :
    ∃ v, w.cell? ⟨b, o, none⟩ = some v ∧ VR g x v := by
  obtain ⟨vs, hv, hr⟩ := r.cells hb
  obtain ⟨v, h1, h2⟩ := hr.get ho
  exact ⟨v, by rw [cell_of hv]; simpa using h1, h2⟩

theorem OR.imm {g g' : Gh} {o : MObj} {x : Obj} (hle : g.le g') (h : OR g o x) : OR g' o x := h.mono hle

/-- A block that is owned is another one. -/
theorem Inv.setm (i : Inv h0 w0 g0 g h w) {o o' : MObj} (hb : h.m b = some o) {w' : World} {x : Obj} (ho : OR g o' x)
    (hx : w'.heap[b]? = some x) (hoth : ∀ k, k ≠ b → w'.heap[k]? = w.heap[k]?) (hs : w'.heap.size = w.heap.size)
    (ht : w'.tape = w.tape) (hos : w'.os = w.os) (hout : w'.output = w.output) : Inv h0 w0 g0 g (h.put b o') w' where
  rel := {
    im := fun k j v hk => by
      have hkb : k ≠ b := by rintro rfl; rw [(i.rel.mm k _ hb).2.1 j] at hk; cases hk
      have := i.rel.im k j v hk
      simpa [World.cell?, hoth k hkb] using this
    lim := fun k l hk => by rw [hs]; exact i.rel.lim k l hk
    mm := fun k o1 hk => by
      by_cases e : k = b
      · subst e
        simp [H.put] at hk; subst hk
        exact ⟨⟨x, hx, ho⟩, (i.rel.mm k _ hb).2.1, (i.rel.mm k _ hb).2.2⟩
      · simp [H.put, e] at hk
        obtain ⟨⟨y, hy, hr⟩, h2, h3⟩ := i.rel.mm k _ hk
        exact ⟨⟨y, by rw [hoth k e]; exact hy, hr⟩, h2, h3⟩
    tt := fun k e hk => by
      have hkb : k ≠ b := by
        rintro rfl
        have : h.t k = some e := hk
        rw [(i.rel.mm k _ hb).2.2] at this; cases this
      obtain ⟨⟨l, vs, T, h1, h2, h3⟩, h4⟩ := i.rel.tt k e hk
      exact ⟨⟨l, vs, T, h1, by rw [hoth k hkb]; exact h2, h3⟩, h4⟩ }
  le := i.le
  size := by rw [hs]; exact i.size
  tape := ht.trans i.tape
  os := hos.trans i.os
  output := hout.trans i.output
  keep := fun k hk hm ht' => by
    obtain ⟨h1, h2, h3, h4⟩ := i.keep k hk hm ht'
    have hkb : k ≠ b := by rintro rfl; rw [hb] at h2; cases h2
    exact ⟨(hoth k hkb).trans h1, by simp [H.put, hkb, h2], h3, h4⟩

theorem Inv.store (i : Inv h0 w0 g0 g h w) {e : TypeId} {cs : List AV} (hb : h.m b = some (.cells e cs)) {o : Nat} {x : AV} {v : Value} (hv : VR g x v) :
    Inv h0 w0 g0 g (h.put b (.cells e (cs.set o x))) (w.setCell ⟨b, o, none⟩ v) := by
  obtain ⟨vs, h1, h2⟩ := i.rel.cells hb
  refine i.setm hb (x := .cells (vs.setIfInBounds o v) e (0, 0)) ⟨rfl, ?_, rfl⟩ ?_ ?_ (by simp) rfl rfl rfl
  · simpa [Array.toList_setIfInBounds] using h2.set o hv
  · simp [World.setCell, Array.getElem?_modify, h1]
  · intro k hk; exact heap_setCell_other w _ k v (by simpa using hk)

theorem Rel.drew (r : Rel g h w) : Rel g h w.drew := ⟨r.im, r.lim, r.mm, r.tt⟩
theorem Inv.drew (i : Inv h0 w0 g0 g h w) : Inv h0 w0 g0 g h w.drew := ⟨i.rel.drew, i.le, i.size, i.tape, i.os, i.output, i.keep⟩

/-- A new block of our own. -/
theorem Inv.alloc (i : Inv h0 w0 g0 g h w) {o : MObj} {x : Obj} (ho : OR g o x) : Inv h0 w0 g0 g (h.put w.heap.size o) (w.alloc x) where
  rel := {
    im := fun k j v hk => by
      have hlt := i.rel.imblock hk
      rw [World.cell?_alloc_lt w x _ hlt]; exact i.rel.im k j v hk
    lim := fun k l hk => by have := i.rel.lim k l hk; simp; omega
    mm := fun k o1 hk => by
      by_cases e : k = w.heap.size
      · subst e
        simp [H.put] at hk; subst hk
        refine ⟨⟨x, heap_alloc_new w x, ho⟩, fun j => ?_, i.rel.free_new.2⟩
        cases hx : g.im w.heap.size j with
        | none => rfl
        | some v => exact absurd (i.rel.imblock hx) (Nat.lt_irrefl _)
      · simp [H.put, e] at hk
        obtain ⟨⟨y, hy, hr⟩, h2, h3⟩ := i.rel.mm k _ hk
        exact ⟨⟨y, by rw [heap_alloc_old w x (i.rel.block hk)]; exact hy, hr⟩, h2, h3⟩
    tt := fun k e hk => by
      obtain ⟨⟨l, vs, T, h1, h2, h3⟩, h4⟩ := i.rel.tt k e hk
      exact ⟨⟨l, vs, T, h1, by rw [heap_alloc_old w x (i.rel.tblock hk)]; exact h2, h3⟩, h4⟩ }
  le := i.le
  size := by simp; have := i.size; omega
  tape := i.tape
  os := i.os
  output := i.output
  keep := fun k hk hm ht' => by
    obtain ⟨h1, h2, h3, h4⟩ := i.keep k hk hm ht'
    have hlt : k < w.heap.size := Nat.lt_of_lt_of_le hk i.size
    exact ⟨(heap_alloc_old w x hlt).trans h1, by simp [H.put, Nat.ne_of_lt hlt, h2], h3, h4⟩

/-- What is fixed, and one block more: its first n cells. -/
def Gh.lay (g : Gh) (b n l : Nat) (vs : Array Value) : Gh where
  im := fun k j => if k = b then (if j < n then vs[j]? else none) else g.im k j
  lim := fun k => if k = b then some l else g.lim k

theorem Gh.le_lay {n l : Nat} {vs : Array Value} (hi : ∀ j, g.im b j = none) (hl : g.lim b = none) : g.le (g.lay b n l vs) where
  im := fun k j v hk => by
    have : k ≠ b := by rintro rfl; rw [hi j] at hk; cases hk
    simp [Gh.lay, this, hk]
  lim := fun k l' hk => by
    have : k ≠ b := by rintro rfl; rw [hl] at hk; cases hk
    simp [Gh.lay, this, hk]

theorem Rel.im_new (r : Rel g h w) (j : Nat) : g.im w.heap.size j = none := by
  cases hx : g.im w.heap.size j with
  | none => rfl
  | some v => exact absurd (r.imblock hx) (Nat.lt_irrefl _)
theorem Rel.lim_new (r : Rel g h w) : g.lim w.heap.size = none := by
  cases hx : g.lim w.heap.size with
  | none => rfl
  | some v => exact absurd (r.lim _ _ hx) (Nat.lt_irrefl _)

/-- A new block whose first n cells stay as they are; its tail is ours. -/
theorem Inv.lay (i : Inv h0 w0 g0 g h w) (vs : Array Value) (e : TypeId) (n l : Nat) (hl : l ≤ vs.size) :
    Inv h0 w0 g0 (g.lay w.heap.size n l vs) (h.tput w.heap.size n) (w.alloc (.cells vs e)) ∧ g.le (g.lay w.heap.size n l vs) ∧
    (∀ b o, b = w.heap.size → o = 0 → ∀ ws : List Value, (∀ j v, ws[j]? = some v → j < n ∧ vs[j]? = some v) → (g.lay w.heap.size n l vs).has b o ws) := by
  have hle : g.le (g.lay w.heap.size n l vs) := Gh.le_lay i.rel.im_new i.rel.lim_new
  refine ⟨⟨⟨?_, ?_, ?_, ?_⟩, i.le.trans hle, ?_, i.tape, i.os, i.output, ?_⟩, hle, ?_⟩
  · intro k j v hk
    by_cases ek : k = w.heap.size
    · subst ek
      simp [Gh.lay] at hk
      simpa using hk.2
    · have hk' : g.im k j = some v := by simpa [Gh.lay, ek] using hk
      rw [World.cell?_alloc_lt w _ _ (i.rel.imblock hk')]; exact i.rel.im k j v hk'
  · intro k l' hk
    by_cases ek : k = w.heap.size
    · subst ek; simp
    · have hk' : g.lim k = some l' := by simpa [Gh.lay, ek] using hk
      have := i.rel.lim k l' hk'; simp; omega
  · intro k o hk
    have hk' : h.m k = some o := hk
    have hlt := i.rel.block hk'
    obtain ⟨⟨y, hy, hr⟩, h2, h3⟩ := i.rel.mm k _ hk'
    refine ⟨⟨y, by rw [heap_alloc_old w _ hlt]; exact hy, hr.mono hle⟩, fun j => ?_, ?_⟩
    · simp [Gh.lay, Nat.ne_of_lt hlt, h2 j]
    · simp [H.tput, Nat.ne_of_lt hlt, h3]
  · intro k e' hk
    by_cases ek : k = w.heap.size
    · subst ek
      simp [H.tput] at hk; subst hk
      refine ⟨⟨l, vs, e, by simp [Gh.lay], heap_alloc_new w _, hl⟩, fun j hj => ?_⟩
      simp [Gh.lay]; omega
    · have hk' : h.t k = some e' := by simpa [H.tput, ek] using hk
      obtain ⟨⟨l', vs', T, h1, h2, h3⟩, h4⟩ := i.rel.tt k e' hk'
      exact ⟨⟨l', vs', T, by simp [Gh.lay, ek, h1], by rw [heap_alloc_old w _ (i.rel.tblock hk')]; exact h2, h3⟩, fun j hj => by simp [Gh.lay, ek, h4 j hj]⟩
  · simp; have := i.size; omega
  · intro k hk hm ht'
    obtain ⟨h1, h2, h3, h4⟩ := i.keep k hk hm ht'
    have hlt : k < w.heap.size := Nat.lt_of_lt_of_le hk i.size
    exact ⟨(heap_alloc_old w _ hlt).trans h1, h2, by simp [H.tput, Nat.ne_of_lt hlt, h3], fun j => by simp [Gh.lay, Nat.ne_of_lt hlt, h4 j]⟩
  · rintro b o rfl rfl ws hws j v hj
    obtain ⟨h1, h2⟩ := hws j v hj
    simp [Gh.lay, h1, h2]

/-- The tail of a block: k cells more of it stay as they are. -/
def Gh.grow (g : Gh) (b e : Nat) (ws : List Value) : Gh where
  im := fun k j => if k = b ∧ e ≤ j ∧ j < e + ws.length then ws[j - e]? else g.im k j
  lim := g.lim

theorem Inv.grow (i : Inv h0 w0 g0 g h w) {e l : Nat} (ht : h.t b = some e) (hlim : g.lim b = some l) (ws : List Value) (hfit : e + ws.length ≤ l) :
    ∃ vs T, w.heap[b]? = some (.cells vs T (0, 0)) ∧ l ≤ vs.size ∧
    Inv h0 w0 g0 (g.grow b e ws) (h.tput b (e + ws.length)) (w.setRow b (vs.toList.take e ++ ws ++ vs.toList.drop (e + ws.length)).toArray) ∧
    g.le (g.grow b e ws) ∧ (g.grow b e ws).has b e ws := by
  obtain ⟨⟨l', vs, T, h1, h2, h3⟩, h4⟩ := i.rel.tt b e ht
  obtain rfl : l' = l := by rw [hlim] at h1; exact (Option.some.inj h1).symm
  have hle : g.le (g.grow b e ws) := by
    refine ⟨fun k j v hk => ?_, fun _ _ h => h⟩
    by_cases hc : k = b ∧ e ≤ j ∧ j < e + ws.length
    · obtain ⟨rfl, hj, _⟩ := hc
      rw [h4 j hj] at hk; cases hk
    · simp [Gh.grow, hc, hk]
  have hmb : h.m b = none := by
    cases hx : h.m b with
    | none => rfl
    | some o => have := (i.rel.mm b o hx).2.2; rw [ht] at this; cases this
  have hnew := setRow_heap w b vs (vs.toList.take e ++ ws ++ vs.toList.drop (e + ws.length)).toArray T (0, 0) h2
  have hoth : ∀ k, k ≠ b → (w.setRow b (vs.toList.take e ++ ws ++ vs.toList.drop (e + ws.length)).toArray).heap[k]? = w.heap[k]? := fun k hk => setRow_other w b k _ hk
  have hvl : vs.toList.length = vs.size := by simp
  have hsz : (vs.toList.take e ++ ws ++ vs.toList.drop (e + ws.length)).length = vs.size := by
    simp only [List.length_append, List.length_take, List.length_drop, hvl]; omega
  refine ⟨vs, T, h2, h3, ⟨⟨?_, ?_, ?_, ?_⟩, i.le.trans hle, ?_, ?_, ?_, ?_, ?_⟩, hle, ?_⟩
  · intro k j v hk
    by_cases hc : k = b ∧ e ≤ j ∧ j < e + ws.length
    · obtain ⟨rfl, hj1, hj2⟩ := hc
      simp [Gh.grow, hj1, hj2] at hk
      rw [cell_of hnew]
      simp only [List.getElem?_toArray]
      rw [List.append_assoc, List.getElem?_append_right (by simp; omega), List.getElem?_append_left (by simp; omega)]
      have : j - (List.take e vs.toList).length = j - e := by simp only [List.length_take, hvl]; omega
      rw [this]; exact hk
    · have hk' : g.im k j = some v := by simpa [Gh.grow, hc] using hk
      have hcell := i.rel.im k j v hk'
      by_cases ek : k = b
      · subst ek
        have hj : j < e := by
          rcases Nat.lt_or_ge j e with h | h
          · exact h
          · rw [h4 j h] at hk'; cases hk'
        rw [cell_of hnew]
        rw [cell_of h2] at hcell
        simp only [List.getElem?_toArray]
        rw [List.append_assoc, List.getElem?_append_left (by simp only [List.length_take, hvl]; omega), List.getElem?_take_of_lt hj]
        simpa using hcell
      · have e2 := hoth k ek
        simp only [World.cell?] at hcell ⊢
        rw [e2]; exact hcell
  · intro k l' hk
    have : g.lim k = some l' := hk
    simpa using i.rel.lim k l' this
  · intro k o hk
    have hk' : h.m k = some o := hk
    have ek : k ≠ b := by rintro rfl; rw [hmb] at hk'; cases hk'
    obtain ⟨⟨y, hy, hr⟩, h5, h6⟩ := i.rel.mm k _ hk'
    exact ⟨⟨y, by rw [hoth k ek]; exact hy, hr.mono hle⟩, fun j => by simp [Gh.grow, ek, h5 j], by simp [H.tput, ek, h6]⟩
  · intro k e' hk
    by_cases ek : k = b
    · subst ek
      simp [H.tput] at hk; subst hk
      exact ⟨⟨l', _, T, hlim, hnew, by simp only [List.size_toArray, hsz]; exact h3⟩, fun j hj => by
        have : ¬ (e ≤ j ∧ j < e + ws.length) := by omega
        simp [Gh.grow, this, h4 j (by omega)]⟩
    · have hk' : h.t k = some e' := by simpa [H.tput, ek] using hk
      obtain ⟨⟨l2, vs2, T2, h5, h6, h7⟩, h8⟩ := i.rel.tt k e' hk'
      exact ⟨⟨l2, vs2, T2, h5, by rw [hoth k ek]; exact h6, h7⟩, fun j hj => by simp [Gh.grow, ek, h8 j hj]⟩
  · simpa using i.size
  · exact i.tape
  · exact i.os
  · exact i.output
  · intro k hk hm ht'
    obtain ⟨h5, h6, h7, h8⟩ := i.keep k hk hm ht'
    have ek : k ≠ b := by rintro rfl; rw [ht] at h7; cases h7
    exact ⟨(hoth k ek).trans h5, h6, by simp [H.tput, ek, h7], fun j => by simp [Gh.grow, ek, h8 j]⟩
  · intro j v hj
    have hlt : j < ws.length := by
      rcases Nat.lt_or_ge j ws.length with h | h
      · exact h
      · rw [List.getElem?_eq_none h] at hj; cases hj
    have hj' : ws[j] = v := by rw [List.getElem?_eq_getElem hlt] at hj; exact Option.some.inj hj
    simp [Gh.grow, hlt, hj']
end
end Go.AM

namespace Go.AM
open Go

/-- Shapes of one cell. -/
inductive Sh where
  | I (k : IntKind)
  | B
  | S
  | F (k : FloatKind)
  | O

def Sh.Ty : Sh → Type
  | .I _ => Int
  | .B => Bool
  | .S => List UInt8
  | .F _ => Nat
  | .O => AV

def Sh.inj : (s : Sh) → s.Ty → AV
  | .I k, n => .int k n
  | .B, x => .bool x
  | .S, x => .str x
  | .F k, n => .flt k n
  | .O, v => v

def CurTo : List Sh → Type → Type
  | [], R => R
  | s :: ss, R => s.Ty → CurTo ss R

def curryTo {R : Type} : (ss : List Sh) → (List AV → R) → CurTo ss R
  | [], F => F []
  | s :: ss, F => fun x => curryTo ss fun xs => F (s.inj x :: xs)

def ik : IntKind → Nat
  | .i8 => 0 | .i16 => 1 | .i32 => 2 | .i64 => 3 | .u8 => 4 | .u16 => 5 | .u32 => 6 | .u64 => 7

def fk : FloatKind → Nat
  | .f32 => 0 | .f64 => 1

def ifN (a b : Nat) (X : Prop) : Prop := match Nat.beq a b with | true => X | false => False

def ifLe (a b : Nat) (X : Prop) : Prop := match Nat.ble a b with | true => X | false => False

def ifB (b : Bool) (X Y : Prop) : Prop := match b with | true => X | false => Y

def onC : (s : Sh) → AV → (s.Ty → Prop) → Prop
  | .I k, v, K => match v with | .int k' n => ifN (ik k') (ik k) (K n) | _ => False
  | .B, v, K => match v with | .bool x => K x | _ => False
  | .S, v, K => match v with | .str x => K x | _ => False
  | .F k, v, K => match v with | .flt k' n => ifN (fk k') (fk k) (K n) | _ => False
  | .O, v, K => K v

def onCs {R : Type} : (ss : List Sh) → List AV → CurTo ss R → (R → Prop) → Prop
  | [], cs, K, k => match cs with | [] => k K | _ :: _ => False
  | s :: ss, cs, K, k => match cs with | c :: cs => onC s c fun x => onCs ss cs (K x) k | [] => False

def onA (ss : List Sh) (v : AV) (K : CurTo ss Prop) : Prop := match v with | .agg cs => onCs ss cs K id | _ => False

/-- One component: a struct or array of such leaves, or a single cell. -/
abbrev Comp := Bool × List Sh

def onK {R : Type} (c : Comp) (v : AV) (K : CurTo c.2 R) (k : R → Prop) : Prop :=
  match c.1 with
  | true => (match v with | .agg cs => onCs c.2 cs K k | _ => False)
  | false => onCs c.2 [v] K k

def CurT : List Comp → Type
  | [] => Prop
  | c :: r => CurTo c.2 (CurT r)

def compV (c : Comp) (xs : List AV) : AV := match c.1 with | true => .agg xs | false => (match xs with | [x] => x | _ => .junk)

def curryT : (cs : List Comp) → (List AV → Prop) → CurT cs
  | [], F => F []
  | c :: r, F => curryTo c.2 fun xs => curryT r fun vs => F (compV c xs :: vs)

def onTs : (cs : List Comp) → List AV → CurT cs → Prop
  | [], vs, K => match vs with | [] => K | _ :: _ => False
  | c :: r, vs, K => match vs with | v :: vs => onK c v K fun K' => onTs r vs K' | [] => False

def onT (cs : List Comp) (v : AV) (K : CurT cs) : Prop := match v with | .tup vs => onTs cs vs K | _ => False

/-! The table of types. -/
inductive TD where
  | int (k : IntKind)
  | bool
  | str
  | flt (k : FloatKind)
  | slice (e : TypeId)
  | arr (n : Nat) (e : TypeId)
  | ptr (e : TypeId)
  | map (k e : TypeId)
  | strct (fs : List (Nat × TypeId))
  | iface
  | func
  | tup (ts : List TypeId)
  | other

structure TI where
  d : TD
  size : Nat
  bytes : Nat
  zero : AV
  leaf : List Sh

def TI.agg (i : TI) : Bool := match i.d with | .strct _ => true | .arr _ _ => true | _ => false
def TI.comp (i : TI) : Comp := (i.agg, i.leaf)

/-- Where a loop's value lives: a slot, or a cell of a box of the call's own. -/
inductive Pl where
  | sl (t : Nat)
  | bx (i o : Nat)

/-- What is known of a slot, or a cell, where ways meet. -/
inductive SS where
  | junk
  | keep
  | lp (i o : Nat)
  | var (s : Sh)

structure JS where
  sl : List SS
  loc : List (TypeId × List SS)

structure Cx where
  P : Program
  tt : List TI
  gl : Nat → AV
  loc : List Nat          -- the slots whose boxes are kept in the frame
  loops : List (Nat × List (Pl × Sh) × List Pl)   -- by the number of the first region: what turns, what stays
  joins : List (Nat × JS) := []   -- by the number of the first region behind: where ways meet

def TD.isOther : TD → Bool
  | .other => true
  | _ => false

/-- A type of which something is known. -/
def knownP (i : TI) (X : Prop) : Prop := match i.d.isOther with | true => False | false => X

def noTI : TI := ⟨.other, 0, 0, .junk, []⟩
def Cx.ti (cx : Cx) (t : TypeId) : TI := cx.tt.getD t noTI

abbrev Box := TypeId × List AV

structure Fr where
  sl : List Slot
  loc : List Box

def undefS : Slot := .v (.tup [])

def ofV (cx : Cx) (t : TypeId) : Value → AV
  | .bool b => .bool b
  | .int k n => .int k n
  | .float k n => .flt k n
  | .string s => .str s.data.toList
  | .pointer none => .ptr none
  | .slice none 0 0 => .lst .full (match (cx.ti t).d with | .slice e => (cx.ti e).size | _ => 0) []
  | .map none => .map none
  | .nilFunc => .nilF
  | .nilIface => .nilI
  | _ => .junk

def Fr.ev (fr : Fr) (cx : Cx) (t : TypeId) : Operand → Slot
  | .tmp x => fr.sl.getD x undefS
  | .const v => .v (ofV cx t v)
  | .global g => .v (cx.gl g)
  | .func f => .v (.fn f [] [])

def Fr.put (fr : Fr) (dst : Option Tmp) (s : Slot) (loc : List Box) : Fr :=
  match dst with
  | some d => ⟨fr.sl.set d s, loc⟩
  | none => ⟨fr.sl, loc⟩

/-! Arithmetic, as the model has it. -/
def ar (op : BinOp) (k : IntKind) (a b : Int) : Int :=
  match op with
  | .add => k.wrap (a + b)
  | .sub => k.wrap (a - b)
  | .mul => k.wrap (a * b)
  | .quo => k.wrap (a.tdiv b)
  | .rem => a.tmod b
  | .shl => k.wrap (a * 2 ^ (min b.toNat k.bits))
  | .shr => a.fdiv (2 ^ (min b.toNat k.bits))
  | .and => k.wrap (BitVec.ofInt k.bits a &&& BitVec.ofInt k.bits b).toNat
  | .or => k.wrap (BitVec.ofInt k.bits a ||| BitVec.ofInt k.bits b).toNat
  | .xor => k.wrap (BitVec.ofInt k.bits a ^^^ BitVec.ofInt k.bits b).toNat
  | .andNot => k.wrap (BitVec.ofInt k.bits a &&& ~~~ BitVec.ofInt k.bits b).toNat
  | _ => 0

def cmpI (op : BinOp) (a b : Int) : Bool :=
  match op with
  | .eql => a == b
  | .neq => a != b
  | .lss => decide (a < b)
  | .leq => decide (a ≤ b)
  | .gtr => decide (a > b)
  | .geq => decide (a ≥ b)
  | _ => false

def cmpS (op : BinOp) (a b : List UInt8) : Bool :=
  match op with
  | .eql => a == b
  | .neq => !(a == b)
  | .lss => Op.bytesLess a b
  | .leq => Op.bytesLess a b || a == b
  | .gtr => !(Op.bytesLess a b || a == b)
  | .geq => !(Op.bytesLess a b)
  | _ => false

def isCmp : BinOp → Bool
  | .eql | .neq | .lss | .leq | .gtr | .geq => true
  | _ => false

def neg? (op : BinOp) (b : Bool) : Bool := match op with | .neq => !b | _ => b

/-- Is a pointer, an interface value, a function value, a map nil? -/
def nilPtr (v : AV) (K : Bool → Prop) : Prop :=
  match v with
  | .ptr none => K true
  | .ptr (some _) => K false
  | .ept _ _ => K false
  | .elp _ _ _ _ => K false
  | _ => False
def nilIf (v : AV) (K : Bool → Prop) : Prop :=
  match v with
  | .nilI => K true
  | .ifc _ _ => K false
  | _ => False
def nilFn (v : AV) (K : Bool → Prop) : Prop :=
  match v with
  | .nilF => K true
  | .fn _ _ _ => K false
  | _ => False
def nilMp (v : AV) (K : Bool → Prop) : Prop :=
  match v with
  | .map none => K true
  | .map (some _) => K false
  | _ => False

/-- A list that is pure: if it is nil, it is empty. -/
def nilSl (v : AV) (K : Bool → Prop) : Prop :=
  match v with
  | .lst _ _ xs => ∀ b : Bool, (b = true → xs = []) → K b
  | .sl _ _ _ _ => K false
  | _ => False

inductive NK where
  | p | i | f | m | s

def nilOf (k : NK) (v : AV) (K : Bool → Prop) : Prop :=
  match k with
  | .p => nilPtr v K
  | .i => nilIf v K
  | .f => nilFn v K
  | .m => nilMp v K
  | .s => nilSl v K

def nilConst (k : NK) (x : Operand) : Bool :=
  match k, x with
  | .p, .const (.pointer none) => true
  | .i, .const .nilIface => true
  | .f, .const .nilFunc => true
  | .m, .const (.map none) => true
  | .s, .const (.slice none 0 0) => true
  | _, _ => false

def nilCmp (k : NK) (op : BinOp) (x y : Operand) (a b : AV) (K : AV → Prop) : Prop :=
  match op with
  | .eql | .neq => (match nilConst k y with
    | true => nilOf k a fun r => K (.bool (neg? op r))
    | false => (match nilConst k x with | true => nilOf k b fun r => K (.bool (neg? op r)) | false => False))
  | _ => False

def nnP (v : AV) (X : Prop) : Prop :=
  match v with
  | .ptr (some _) => X
  | .ept _ _ => X
  | .elp _ _ _ _ => X
  | .fn _ _ _ => X
  | .ifc _ _ => X
  | _ => False

def ptrP (v : AV) (X : Prop) : Prop :=
  match v with
  | .ptr (some _) => X
  | .ept _ _ => X
  | .elp _ _ _ _ => X
  | _ => False

def oneP (v : AV) (X : Prop) : Prop := match v.one with | true => X | false => False

def cellsP (v : AV) (K : List AV → Prop) : Prop :=
  match v with
  | .agg cs => K cs
  | .tup _ => False
  | .junk => False
  | v => K [v]

def takeP (cs : List AV) (o n : Nat) (K : List AV → Prop) : Prop :=
  match Nat.ble (o + n) cs.length with
  | true => K ((cs.drop o).take n)
  | false => False

def ldM (h : H) (p : AV) (n : Nat) (K : List AV → Prop) : Prop :=
  match p with
  | .ptr (some (b, o)) => (match h.m b with | some (.cells _ cs) => takeP cs o n K | _ => False)
  | .ept cs o => takeP cs o n K
  | .elp _ xs i off => (match xs[i]? with | some x => cellsP x fun cs => takeP cs off n K | none => False)
  | _ => False

def stM (h : H) (p : AV) (xs : List AV) (K : H → Prop) : Prop :=
  match xs.all AV.one with
  | false => False
  | true =>
  match p with
  | .ptr (some (b, o)) => (match h.m b with
    | some (.cells e cs) => (match Nat.ble (o + xs.length) cs.length with
      | true => K (h.put b (.cells e (cs.take o ++ xs ++ cs.drop (o + xs.length))))
      | false => False)
    | _ => False)
  | _ => False

def padd (p : AV) (k : Nat) : AV :=
  match p with
  | .ptr (some (b, o)) => .ptr (some (b, o + k))
  | .ept cs o => .ept cs (o + k)
  | .elp sz xs i off => .elp sz xs i (off + k)
  | _ => .junk

/-- A value of a type, cell by cell. -/
def partP (i : TI) (v : AV) (K : List AV → Prop) : Prop :=
  match i.agg with
  | true => (match v with | .agg cs => ifN cs.length i.size (K cs) | _ => False)
  | false => oneP v (K [v])

def partsP (cx : Cx) : List (TypeId × Slot) → (List (List AV) → Prop) → Prop
  | [], K => K []
  | (t, s) :: r, K => match s with
    | .v v => knownP (cx.ti t) (partP (cx.ti t) v fun cs => partsP cx r fun css => K (cs :: css))
    | .lp _ _ => False

def splice (cs : List AV) (o : Nat) (xs : List AV) : List AV := cs.take o ++ xs ++ cs.drop (o + xs.length)

def fillA (zero : List AV) : List (Nat × List AV) → (List AV → Prop) → Prop
  | [], K => K zero
  | (o, cs) :: r, K => match Nat.ble (o + cs.length) zero.length with | true => fillA (splice zero o cs) r K | false => False

def slotV (s : Slot) (K : AV → Prop) : Prop := match s with | .v v => K v | .lp _ _ => False

def slotsV : List Slot → (List AV → Prop) → Prop
  | [], K => K []
  | s :: r, K => slotV s fun v => slotsV r fun vs => K (v :: vs)

def strOf (xs : List AV) : List UInt8 := xs.map fun x => match x with | .int _ n => UInt8.ofNat n.toNat | _ => 0
def bytesOK (xs : List AV) : Prop := ∀ x ∈ xs, ∃ n : UInt8, x = .int .u8 n.toNat
def ofStr (s : List UInt8) : List AV := s.map fun c => .int .u8 c.toNat

/-- What the content of a slice (or a string) is. -/
def elemsOf (agg : Bool) (sz : Nat) : Nat → List AV → List AV
  | 0, _ => []
  | n + 1, cs => (match agg with | true => AV.agg (cs.take sz) | false => cs.headD .junk) :: elemsOf agg sz n (cs.drop sz)

def rdP (i : TI) (h : H) (v : AV) (K : List AV → Prop) : Prop :=
  match v with
  | .lst _ sz xs => ifN sz i.size (K xs)
  | .str s => ifN i.size 1 (K (ofStr s))
  | .sl b off len _ => (match h.m b with | some (.cells _ cs) => takeP cs off (len * i.size) fun cs => (∀ c ∈ cs, c.one = true) ∧ K (elemsOf i.agg i.size len cs) | _ => False)
  | _ => False

def H.with (h : H) (t : Tag) : H := match t with | .own b e => h.tput b e | _ => h
def TagOK (h : H) (t : Tag) : Prop := match t with | .own b _ => h.free b | .full => True | .any => False

def okElems (i : TI) (ys : List AV) : Prop := ∀ y ∈ ys, y.cells.length = i.size ∧ ∀ c ∈ y.cells, c.one = true

def apP (i : TI) (h : H) (s : AV) (ys : List AV) (K : AV → H → Prop) : Prop :=
  match s with
  | .lst t sz xs => sz = i.size ∧ 0 < i.bytes ∧ okElems i ys ∧ (xs.length + ys.length) * i.bytes ≤ 140737488355328 ∧
    (match t with
      | .any => False
      | .full => ∀ t', TagOK h t' → K (.lst t' sz (xs ++ ys)) (h.with t')
      | .own b e => h.t b = some e ∧ ∀ t', TagOK (h.tdel b) t' → K (.lst t' sz (xs ++ ys)) ((h.tdel b).with t'))
  | _ => False

def lenL (v : AV) (K : Int → Prop) : Prop :=
  match v with
  | .lst _ _ xs => K xs.length
  | .sl _ _ len _ => K len
  | _ => False

def lenM (h : H) (v : AV) (K : Int → Prop) : Prop :=
  match v with
  | .map none => K 0
  | .map (some r) => (match h.m r with | some (.map es _) => K es.length | _ => False)
  | _ => False

def lenP (d : TD) (h : H) (v : AV) (K : Int → Prop) : Prop :=
  match d with
  | .str => (match v with | .str s => K s.length | _ => False)
  | .slice _ => lenL v K
  | .map _ _ => lenM h v K
  | _ => False

def idxP (sz : Nat) (v : AV) (n : Int) (K : AV → Prop) : Prop :=
  match v with
  | .lst _ sz' xs => sz' = sz ∧ (0 ≤ n ∧ n < xs.length) ∧ K (.elp sz xs n.toNat 0)
  | .sl b off len _ => (0 ≤ n ∧ n < len) ∧ K (.ptr (some (b, off + n.toNat * sz)))
  | _ => False

def optI (s : Option Slot) (d : Int) (K : Int → Prop) : Prop :=
  match s with
  | none => K d
  | some (.v (.int _ n)) => K n
  | _ => False

/-- Full slices have an upper bound. -/
def hiOK (hi mx : Option Slot) (X : Prop) : Prop := match mx, hi with | some _, none => False | _, _ => X

/-- The tail's holder, after a cut in front. -/
def cutTag (lo : Option Slot) (t : Tag) : Tag := match lo, t with | some _, .own _ _ => .any | _, t => t

def strP (v : AV) (lo hi mx : Option Slot) (K : AV → Prop) : Prop :=
  match v with
  | .str s => (match mx with | some _ => False | none => optI hi s.length fun b => optI lo 0 fun a => (0 ≤ a ∧ a ≤ b ∧ b ≤ s.length) ∧ K (.str ((s.take b.toNat).drop a.toNat)))
  | _ => False

def sliceP (sz : Nat) (v : AV) (lo hi mx : Option Slot) (K : AV → Prop) : Prop :=
  match v with
  | .lst t sz' xs => hiOK hi mx (sz' = sz ∧ optI hi xs.length fun b => optI lo 0 fun a => optI mx xs.length fun m =>
      (0 ≤ a ∧ a ≤ b ∧ b ≤ m ∧ m ≤ xs.length) ∧
      (match mx, hi with
        | some _, _ => (m = b) ∧ K (.lst .full sz ((xs.take b.toNat).drop a.toNat))
        | none, some _ => K (.lst .any sz ((xs.take b.toNat).drop a.toNat))
        | none, none => K (.lst (cutTag lo t) sz (xs.drop a.toNat))))
  | .sl b off len cap => hiOK hi mx (optI hi len fun y => optI lo 0 fun x => optI mx cap fun m =>
      (0 ≤ x ∧ x ≤ y ∧ y ≤ m ∧ m ≤ cap) ∧ K (.sl b (if m = x then off else off + x.toNat * sz) (y - x).toNat (m - x).toNat))
  | _ => False

def arrP (n sz : Nat) (v : AV) (lo hi mx : Option Slot) (K : AV → Prop) : Prop :=
  match v with
  | .ptr (some (b, off)) => hiOK hi mx (optI hi n fun y => optI lo 0 fun x => optI mx n fun m =>
      (0 ≤ x ∧ x ≤ y ∧ y ≤ m ∧ m ≤ n) ∧ K (.sl b (if m = x then off else off + x.toNat * sz) (y - x).toNat (m - x).toNat))
  | .elp _ xs i off => (match xs[i]? with
    | some z => cellsP z fun cs => takeP cs off n fun cs => hiOK hi mx ((sz = 1 ∧ ∀ c ∈ cs, c.one = true) ∧ optI hi n fun y => optI lo 0 fun x => optI mx n fun m =>
      (0 ≤ x ∧ x ≤ y ∧ y ≤ m ∧ m ≤ n) ∧ K (.lst .any 1 ((cs.take y.toNat).drop x.toNat)))
    | none => False)
  | _ => False

def eqC : AV → AV → Option Bool
  | .int k a, .int k' b => match Nat.beq (ik k) (ik k') with | true => some (a == b) | false => none
  | .str a, .str b => some (a == b)
  | .bool a, .bool b => some (a == b)
  | _, _ => none

def eqCs : List AV → List AV → Option Bool
  | [], [] => some true
  | a :: as, b :: bs => match eqC a b, eqCs as bs with
    | some x, some y => some (x && y)
    | _, _ => none
  | _, _ => none

/-- Keys of maps. -/
def eqK : AV → AV → Option Bool
  | .agg as, .agg bs => eqCs as bs
  | a, b => eqC a b

/-! Maps whose keys are numbers or strings. -/
def keyTD : TD → Bool
  | .int _ => true
  | .str => true
  | _ => false

/-- The place of a key, and its value. -/
def eqT (kd : TD) (a b : AV) : Option Bool :=
  match kd, a, b with
  | .int _, .int k x, .int k' y => (match Nat.beq (ik k) (ik k') with | true => some (x == y) | false => none)
  | .str, .str x, .str y => some (x == y)
  | _, _, _ => none

def mfind (kd : TD) (k : AV) : List (AV × AV × Nat) → Nat → (Option (Nat × AV) → Prop) → Prop
  | [], _, K => K none
  | e :: es, i, K => match eqT kd k e.1 with
    | some true => K (some (i, e.2.1))
    | some false => mfind kd k es (i + 1) K
    | none => False

def lookP (kd : TD) (zero : AV) (h : H) (m k : AV) (K : AV → Bool → Prop) : Prop :=
  match m with
  | .map none => K zero false
  | .map (some r) => (match h.m r with
    | some (.map es _) => mfind kd k es 0 fun o => (match o with | some x => K x.2 true | none => K zero false)
    | _ => False)
  | _ => False

def updP (kd : TD) (h : H) (m k v : AV) (K : H → Prop) : Prop :=
  match m with
  | .map (some r) => (match h.m r with
    | some (.map es clock) => mfind kd k es 0 fun o => (match o with
      | some x => K (h.put r (.map (es.modify x.1 fun e => (k, v, e.2.2)) clock))
      | none => K (h.put r (.map (es ++ [(k, v, clock)]) (clock + 1))))
    | _ => False)
  | _ => False

def delP (kd : TD) (h : H) (m k : AV) (K : H → Prop) : Prop :=
  match m with
  | .map none => K h
  | .map (some r) => (match h.m r with
    | some (.map es clock) => mfind kd k es 0 fun o => (match o with
      | some x => K (h.put r (.map (es.eraseIdx x.1) clock))
      | none => K (h.put r (.map es clock)))
    | _ => False)
  | _ => False

/-- The cells of a new array. -/
def madeA (zs : List AV) (n : Nat) : List AV := (List.range n).map fun i => zs.getD (i % zs.length) .junk

/-- Is it the number 0, as written? -/
def zeroC : Operand → Bool
  | .const (.int _ (.ofNat 0)) => true
  | _ => false

def mkP (e : TypeId) (i : TI) (h : H) (n m : Int) (K : AV → H → Prop) : Prop :=
  (0 ≤ n ∧ n ≤ m ∧ (i.bytes : Int) * m ≤ 281474976710656 ∧ m ≤ 9223372036854775807) ∧
    ∀ b, h.free b → K (.sl b 0 n.toNat m.toNat) (h.put b (.cells e (madeA i.zero.cells (m.toNat * i.size))))

def mk0P (i : TI) (h : H) (m : Int) (K : AV → H → Prop) : Prop :=
  (0 ≤ m ∧ (i.bytes : Int) * m ≤ 281474976710656 ∧ m ≤ 9223372036854775807) ∧
    ∀ b, h.free b → K (.lst (.own b 0) i.size []) (h.tput b 0)

/-! Words of the shallow texts. -/
def ld1 (h : H) (p : AV) (K : AV → Prop) : Prop := ldM h p 1 fun cs => match cs with | [c] => K c | _ => False
def alP (h : H) (o : MObj) (K : Nat → H → Prop) : Prop := ∀ n, h.free n → K n (h.put n o)
def onAgg (v : AV) (K : List AV → Prop) : Prop := match v with | .agg cs => K cs | _ => False
def callV (C : FuncId → List AV → H → (AV → H → Prop) → Prop) (v : AV) (args : List AV) (h : H) (K : AV → H → Prop) : Prop :=
  match v with | .fn f a b => C f (a ++ args ++ b) h K | _ => False
def copyP (i : TI) (h : H) (d x : AV) (K : Int → H → Prop) : Prop :=
  rdP i h x fun ys => match d with
    | .sl b off len _ => stM h (.ptr (some (b, off))) ((ys.take len).flatMap AV.cells) fun h' => okElems i ys ∧ K (Nat.min ys.length len) h'
    | _ => False
def jn {α : Type} (R : α) (B : α → Prop) : Prop := B R

/-! One operation. -/

def tupP (cx : Cx) (ts : List TypeId) (v : AV) (K : AV → Prop) : Prop :=
  onT (ts.map fun t => (cx.ti t).comp) v (curryT (ts.map fun t => (cx.ti t).comp) fun vs => K (.tup vs))

/-- A struct or array from elsewhere; one of very many cells stays whole. -/
def aggP (leaf : List Sh) (v : AV) (K : AV → Prop) : Prop :=
  match leaf with
  | [] => (match v with | .agg cs => K (.agg cs) | _ => False)
  | s :: ss => onA (s :: ss) v (curryTo (s :: ss) fun xs => K (.agg xs))

/-- A value of a type that comes from elsewhere: its parts are named. -/
def typP (cx : Cx) (t : TypeId) (v : AV) (K : AV → Prop) : Prop :=
  match (cx.ti t).d with
  | .tup ts => tupP cx ts v K
  | .strct _ => aggP (cx.ti t).leaf v K
  | .arr _ _ => aggP (cx.ti t).leaf v K
  | .int k => onC (.I k) v fun n => K (.int k n)
  | .bool => onC .B v fun x => K (.bool x)
  | .str => onC .S v fun x => K (.str x)
  | .flt k => onC (.F k) v fun n => K (.flt k n)
  | .other => False
  | _ => K v

/-- What is read of memory, as a type has it. -/
def readP (cx : Cx) (t : TypeId) (cs : List AV) (K : AV → Prop) : Prop :=
  match (cx.ti t).agg with
  | true => typP cx t (.agg cs) K
  | false => (match cs with | [c] => typP cx t c K | _ => False)

def boolP (s : Slot) (K : Bool → Prop) : Prop := match s with | .v (.bool b) => K b | _ => False
def intP (s : Slot) (K : IntKind → Int → Prop) : Prop := match s with | .v (.int k n) => K k n | _ => False

def binI (op : BinOp) (k : IntKind) (a : Int) (k' : IntKind) (b : Int) (K : AV → Prop) : Prop :=
  match op with
  | .shl | .shr => 0 ≤ b ∧ K (.int k (ar op k a b))
  | .quo | .rem => ifN (ik k) (ik k') (b ≠ 0 ∧ K (.int k (ar op k a b)))
  | .add | .sub | .mul | .and | .or | .xor | .andNot => ifN (ik k) (ik k') (K (.int k (ar op k a b)))
  | _ => ifN (ik k) (ik k') (K (.bool (cmpI op a b)))

def binS (op : BinOp) (a b : List UInt8) (K : AV → Prop) : Prop :=
  match op with
  | .add => (a.length + b.length ≤ 9223372036854775807) ∧ K (.str (a ++ b))
  | _ => match isCmp op with | true => K (.bool (cmpS op a b)) | false => False

def binP (cx : Cx) (op : BinOp) (t : TypeId) (x y : Operand) (a b : AV) (K : AV → Prop) : Prop :=
  match (cx.ti t).d with
  | .int _ => (match a, b with | .int k a, .int k' b => binI op k a k' b K | _, _ => False)
  | .str => (match a, b with | .str a, .str b => binS op a b K | _, _ => False)
  | .bool => (match a, b with
    | .bool a, .bool b => (match op with | .eql => K (.bool (a == b)) | .neq => K (.bool (!(a == b))) | _ => False)
    | _, _ => False)
  | .ptr _ => nilCmp .p op x y a b K
  | .iface => nilCmp .i op x y a b K
  | .func => nilCmp .f op x y a b K
  | .map _ _ => nilCmp .m op x y a b K
  | .slice _ => nilCmp .s op x y a b K
  | _ => False

def unP (op : UnOp) (a : AV) (K : AV → Prop) : Prop :=
  match op, a with
  | .neg, .int k n => K (.int k (ar .sub k 0 n))
  | .xor, .int k n => K (.int k (ar .xor k (if k.signed then -1 else k.max) n))
  | .not, .bool b => K (.bool (!b))
  | _, _ => False

def convP (cx : Cx) (h : H) (s d : TypeId) (a : AV) (K : AV → Prop) : Prop :=
  match (cx.ti s).d, (cx.ti d).d with
  | .int _, .int k => (match a with | .int _ n => K (.int k (k.wrap n)) | _ => False)
  | .str, .str => (match a with | .str s => K (.str s) | _ => False)
  | .slice e, .str => (match (cx.ti e).d with
    | .int .u8 => rdP (cx.ti e) h a fun xs => bytesOK xs ∧ K (.str (strOf xs))
    | _ => False)
  | .str, .slice e => (match (cx.ti e).d with
    | .int .u8 => (match a with | .str s => s.length ≤ 9223372036854775807 ∧ K (.lst .any 1 (ofStr s)) | _ => False)
    | _ => False)
  | _, _ => False

def optEv (fr : Fr) (cx : Cx) : Option Operand → Option Slot
  | none => none
  | some x => some (fr.ev cx 3 x)

def callP (cx : Cx) (C : FuncId → List AV → H → (AV → H → Prop) → Prop) (t : TypeId) (f : FuncId) (args : List AV) (h : H) (K : AV → H → Prop) : Prop :=
  C f args h fun v h' => typP cx t v fun v' => K v' h'

def evArgs (fr : Fr) (cx : Cx) : List Operand → List TypeId → List Slot
  | [], _ => []
  | x :: xs, [] => fr.ev cx 0 x :: evArgs fr cx xs []
  | x :: xs, t :: ts => fr.ev cx t x :: evArgs fr cx xs ts

def builtinP (cx : Cx) (b : Builtin) (ts : List TypeId) (args : List AV) (h : H) (K : AV → H → Prop) : Prop :=
  match b, ts, args with
  | .append, [t, t2], [s, x] => (match (cx.ti t).d, (cx.ti t2).d with
    | .slice e, .slice e2 => ifN e e2 (knownP (cx.ti e) (match (cx.ti e).zero.isJunk with | false => rdP (cx.ti e) h x fun ys => apP (cx.ti e) h s ys K | true => False))
    | .slice e, .str => knownP (cx.ti e) (match (cx.ti e).zero.isJunk with | false => rdP (cx.ti e) h x fun ys => apP (cx.ti e) h s ys K | true => False)
    | _, _ => False)
  | .len, t :: _, [x] => lenP (cx.ti t).d h x fun n => K (.int .i64 n) h
  | .delete, t :: _, [m, k] => (match (cx.ti t).d with
    | .map kt _ => (match keyTD (cx.ti kt).d with
      | true => delP (cx.ti kt).d h m k fun h' => K (.tup []) h'
      | false => False)
    | _ => False)
  | .min, _, [.int k a, .int k' b] => ifN (ik k) (ik k') (K (.int k (if b < a then b else a)) h)
  | .max, _, [.int k a, .int k' b] => ifN (ik k) (ik k') (K (.int k (if b > a then b else a)) h)
  | .copy, t :: _, [d, x] => (match (cx.ti t).d with
    | .slice e => knownP (cx.ti e) (copyP (cx.ti e) h d x fun n h' => K (.int .i64 n) h')
    | _ => False)
  | _, _, _ => False

def aop (cx : Cx) (C : FuncId → List AV → H → (AV → H → Prop) → Prop) (o : Oper) (fr : Fr) (h : H) (K : Slot → List Box → H → Prop) : Prop :=
  let V (v : AV) : Prop := K (.v v) fr.loc h
  match o.op with
  | .move x => K (fr.ev cx o.type x) fr.loc h
  | .assign x => K (fr.ev cx o.type x) fr.loc h
  | .pick c a b => boolP (fr.ev cx 0 c) fun t => ifB t (K (fr.ev cx o.type a) fr.loc h) (K (fr.ev cx o.type b) fr.loc h)
  | .alloc T => (match (cx.ti T).agg, (cx.ti T).zero with
    | true, .agg cs => (match cx.loc.contains (o.dst.getD 0) with
      | true => K (.lp fr.loc.length 0) (fr.loc ++ [(T, cs)]) h
      | false => ∀ n, h.free n → K (.v (.ptr (some (n, 0)))) fr.loc (h.put n (.cells T cs)))
    | false, z => oneP z (match cx.loc.contains (o.dst.getD 0) with
      | true => K (.lp fr.loc.length 0) (fr.loc ++ [(T, [z])]) h
      | false => ∀ n, h.free n → K (.v (.ptr (some (n, 0)))) fr.loc (h.put n (.cells T [z])))
    | _, _ => False)
  | .box T x => knownP (cx.ti T) <| slotV (fr.ev cx T x) fun v => partP (cx.ti T) v fun cs =>
    (match cx.loc.contains (o.dst.getD 0) with
      | true => K (.lp fr.loc.length 0) (fr.loc ++ [(T, cs)]) h
      | false => ∀ n, h.free n → K (.v (.ptr (some (n, 0)))) fr.loc (h.put n (.cells T cs)))
  | .build T parts => (match (cx.ti T).d, (cx.ti T).zero with
    | .strct fs, .agg zero => (match fs.all (fun f => !(cx.ti f.2).d.isOther) && parts.toList.all (fun p => Nat.blt p.1 fs.length) with
      | true => partsP cx (parts.toList.map fun p => ((fs.getD p.1 (0, 0)).2, fr.ev cx (fs.getD p.1 (0, 0)).2 p.2)) fun css =>
        fillA zero ((parts.toList.map fun p => (fs.getD p.1 (0, 0)).1).zip css) fun l => V (.agg l)
      | false => False)
    | .arr _ e, .agg zero => knownP (cx.ti e) (partsP cx (parts.toList.map fun p => (e, fr.ev cx e p.2)) fun css =>
        fillA zero ((parts.toList.map fun p => p.1 * (cx.ti e).size).zip css) fun l => V (.agg l))
    | _, _ => False)
  | .buildSlice T len parts => (match (cx.ti T).d with
    | .slice e => knownP (cx.ti e) (match (cx.ti e).zero.isJunk with
      | false => partsP cx (parts.toList.map fun p => (e, fr.ev cx e p.2)) fun css =>
        ifLe (len * (cx.ti e).size) 16777216 ((parts.toList.map (·.1)) = List.range len ∧
          V (.lst .full (cx.ti e).size (css.map fun cs => match (cx.ti e).agg with | true => .agg cs | false => cs.headD .junk)))
      | true => False)
    | _ => False)
  | .load T a => (match fr.ev cx 0 a with
    | .lp i off => knownP (cx.ti T) (match fr.loc[i]? with
      | some (_, cs) => (match (cx.ti T).agg with
        | true => takeP cs off (cx.ti T).size fun cs => V (.agg cs)
        | false => (match cs[off]? with | some c => V c | none => False))
      | none => False)
    | .v p => ldM h p (cx.ti T).size fun cs => readP cx T cs V)
  | .store T a x => knownP (cx.ti T) <| slotV (fr.ev cx T x) fun v => partP (cx.ti T) v fun xs => (match fr.ev cx 0 a with
    | .lp i off => (match fr.loc[i]?, xs.all AV.one with
      | some (e, cs), true => (match Nat.ble (off + xs.length) cs.length with
        | true => K undefS (fr.loc.set i (e, splice cs off xs)) h
        | false => False)
      | _, _ => False)
    | .v p => stM h p xs fun h' => K undefS fr.loc h')
  | .nilCheck x => (match fr.ev cx 0 x with
    | .lp i off => K (.lp i off) fr.loc h
    | .v p => nnP p (V p))
  | .binOp op t x y _ => slotV (fr.ev cx t x) fun a => slotV (fr.ev cx t y) fun b => binP cx op t x y a b V
  | .unOp op _ x => slotV (fr.ev cx o.type x) fun a => unP op a V
  | .convert s d x => slotV (fr.ev cx s x) fun a => convP cx h s d a V
  | .makeInterface T x => (match (cx.ti T).d with
    | .iface => False
    | .other => False
    | _ => slotV (fr.ev cx T x) fun a => V (.ifc T a))
  | .makeFunc (.func f) first caps => slotsV (first.toList.map (fr.ev cx 0)) fun a => slotsV (caps.toList.map (fr.ev cx 0)) fun b => V (.fn f a b)
  | .makeMap _ none => ∀ n, h.free n → K (.v (.map (some n))) fr.loc (h.put n (.map [] 0))
  | .slice T x lo hi mx => (match (cx.ti T).d with
    | .str => slotV (fr.ev cx T x) fun a => strP a (optEv fr cx lo) (optEv fr cx hi) (optEv fr cx mx) V
    | .slice e => knownP (cx.ti e) (slotV (fr.ev cx T x) fun a => sliceP (cx.ti e).size a (optEv fr cx lo) (optEv fr cx hi) (optEv fr cx mx) V)
    | .arr n e => knownP (cx.ti e) (slotV (fr.ev cx T x) fun a => arrP n (cx.ti e).size a (optEv fr cx lo) (optEv fr cx hi) (optEv fr cx mx) V)
    | _ => False)
  | .fieldAddr T x f => (match (cx.ti T).d with
    | .strct fs => (match fs[f]? with
      | some (off, t) => knownP (cx.ti t) (match Nat.blt 0 (cx.ti t).size, fr.ev cx 0 x with
        | false, _ => False
        | true, .lp i o => K (.lp i (o + off)) fr.loc h
        | true, .v p => ptrP p (V (padd p off)))
      | none => False)
    | _ => False)
  | .field T x f => (match (cx.ti T).d with
    | .strct fs => (match fs[f]? with
      | some (off, t) => slotV (fr.ev cx T x) fun a => (match a with
        | .agg cs => knownP (cx.ti t) (match (cx.ti t).agg with
          | true => V (.agg ((cs.drop off).take (cx.ti t).size))
          | false => (match cs[off]? with | some c => V c | none => False))
        | _ => False)
      | none => False)
    | _ => False)
  | .indexAddr T x ix => intP (fr.ev cx 3 ix) fun _ n => (match (cx.ti T).d with
    | .slice e => knownP (cx.ti e) (slotV (fr.ev cx T x) fun a => idxP (cx.ti e).size a n V)
    | .arr len e => knownP (cx.ti e) (match fr.ev cx 0 x with
      | .lp i o => (match n with
        | .ofNat m => (match Nat.blt m len with | true => K (.lp i (o + m * (cx.ti e).size)) fr.loc h | false => False)
        | _ => False)
      | .v p => ptrP p ((0 ≤ n ∧ n < len) ∧ V (padd p (n.toNat * (cx.ti e).size))))
    | _ => False)
  | .index T x ix => (match (cx.ti T).d with
    | .str => intP (fr.ev cx 3 ix) fun _ n => slotV (fr.ev cx T x) fun a => (match a with
      | .str s => (0 ≤ n ∧ n < s.length) ∧ V (.int .u8 (s.getD n.toNat 0).toNat)
      | _ => False)
    | _ => False)
  | .lookup T x k ok => (match (cx.ti T).d with
    | .map kt et => (match keyTD (cx.ti kt).d, (cx.ti et).zero.isJunk with
      | true, false => slotV (fr.ev cx T x) fun m => slotV (fr.ev cx kt k) fun k => lookP (cx.ti kt).d (cx.ti et).zero h m k fun v b => typP cx et v fun v => (match ok with
        | true => V (.tup [v, .bool b])
        | false => V v)
      | _, _ => False)
    | _ => False)
  | .mapUpdate T x k y => (match (cx.ti T).d with
    | .map kt et => (match keyTD (cx.ti kt).d with
      | true => slotV (fr.ev cx T x) fun m => slotV (fr.ev cx kt k) fun k => slotV (fr.ev cx et y) fun v => updP (cx.ti kt).d h m k v fun h' => K undefS fr.loc h'
      | false => False)
    | _ => False)
  | .makeSlice T x y => (match (cx.ti T).d with
    | .slice e => (match (cx.ti e).zero.isJunk with
      | false => intP (fr.ev cx 3 x) fun _ n => intP (fr.ev cx 3 y) fun _ m => (match zeroC x with
        | true => mk0P (cx.ti e) h m fun v h' => K (.v v) fr.loc h'
        | false => mkP e (cx.ti e) h n m fun v h' => K (.v v) fr.loc h')
      | true => False)
    | _ => False)
  | .extract x i => (match fr.ev cx 0 x with
    | .v (.tup vs) => (match vs[i]? with | some v => V v | none => False)
    | _ => False)
  | .call c => slotsV (evArgs fr cx c.args.toList c.argTypes.toList) fun args => (match c.callee with
    | .value (.func f) => callP cx C o.type f args h fun v h' => K (.v v) fr.loc h'
    | .value x => (match fr.ev cx 0 x with
      | .v (.fn f first caps) => callP cx C o.type f (first ++ args ++ caps) h fun v h' => K (.v v) fr.loc h'
      | _ => False)
    | .builtin b => builtinP cx b c.argTypes.toList args h fun v h' => K (.v v) fr.loc h'
    | _ => False)
  | _ => False

/-! Regions, and code. -/

/-- Of what kind an operation is: it looks at nothing; it looks at memory; it makes new blocks; or whatever else. -/
inductive Cls where
  | pure | load | grow | wild

def clsB (cx : Cx) (b : Builtin) (ts : List TypeId) : Cls :=
  match b with
  | .len => (match ts with | t :: _ => (match (cx.ti t).d with | .map _ _ => .wild | _ => .pure) | [] => .wild)
  | .min => .pure
  | .max => .pure
  | _ => .wild

def cls (cx : Cx) (o : Oper) : Cls :=
  match o.op with
  | .move _ | .assign _ | .pick _ _ _ | .nilCheck _ | .fieldAddr _ _ _ | .field _ _ _ | .extract _ _ | .indexAddr _ _ _ | .index _ _ _ | .makeInterface _ _
  | .binOp _ _ _ _ _ | .unOp _ _ _ | .makeFunc _ _ _ | .slice _ _ _ _ _ | .build _ _ => .pure
  | .convert s d _ => (match (cx.ti s).d, (cx.ti d).d with
    | .slice _, _ => .wild
    | .str, .slice _ => .grow
    | _, _ => .pure)
  | .load _ _ => .load
  | .alloc _ | .box _ _ | .buildSlice _ _ _ | .makeMap _ _ => .grow
  | .call c => (match c.callee with
    | .builtin b => clsB cx b c.argTypes.toList
    | _ => .wild)
  | _ => .wild

/-- One operation of a region, with its guard. -/
def opP (cx : Cx) (C : FuncId → List AV → H → (AV → H → Prop) → Prop) (ops : List Oper) (o : Oper) (fr : Fr) (h : H) (K : Fr → H → Prop) : Prop :=
  match o.guard with
  | none => aop cx C o fr h fun s loc h' => K (fr.put o.dst s loc) h'
  | some (j, want) => match (ops[j]?).bind (·.dst) with
    | none => False
    | some d => match fr.sl[d]? with
      | some (.v (.bool c)) =>
        ifB c
          (match want with
            | true => aop cx C o ⟨fr.sl.set d (.v (.bool true)), fr.loc⟩ h fun s loc h' => K ((⟨fr.sl.set d (.v (.bool true)), fr.loc⟩ : Fr).put o.dst s loc) h'
            | false => K ((⟨fr.sl.set d (.v (.bool true)), fr.loc⟩ : Fr).put o.dst undefS fr.loc) h)
          (match want with
            | false => aop cx C o ⟨fr.sl.set d (.v (.bool false)), fr.loc⟩ h fun s loc h' => K ((⟨fr.sl.set d (.v (.bool false)), fr.loc⟩ : Fr).put o.dst s loc) h'
            | true => K ((⟨fr.sl.set d (.v (.bool false)), fr.loc⟩ : Fr).put o.dst undefS fr.loc) h)
      | some (.v (.tup [])) => K (fr.put o.dst undefS fr.loc) h
      | _ => False

def wops (cx : Cx) (C : FuncId → List AV → H → (AV → H → Prop) → Prop) (ops : List Oper) (Q : Exit → Fr → H → Prop) : List Oper → Fr → H → Prop
  | [], fr, h => Q .normal fr h
  | o :: rest, fr, h => opP cx C ops o fr h fun fr' h' => wops cx C ops Q rest fr' h'

/-! Regions that draw their order: what looks at nothing comes first, and what looks at memory that nothing else may change meanwhile; else all orders. -/

def bitB (m i : Nat) : Bool := Nat.beq (Nat.land (Nat.shiftRight m i) 1) 1

/-- What is to be known of an operation: what comes before it, what it reads, what it writes; its kind. -/
structure Inf where
  dep : Nat
  look : Nat
  dst : Option Nat
  cls : Cls

def orBits : List Nat → Nat
  | [] => 0
  | i :: r => Nat.lor (Nat.pow 2 i) (orBits r)

def infOf (cx : Cx) (ops : Array Oper) (o : Oper) : Inf :=
  ⟨orBits ((o.after.toList.filter (Region.binds .any)).map (·.on)), orBits (o.looksAt ops), o.dst, cls cx o⟩

def rdyGo (done : Nat) : Nat → List Inf → List Nat
  | _, [] => []
  | i, x :: xs => match bitB done i with
    | true => rdyGo done (i + 1) xs
    | false => match Nat.beq (Nat.land x.dep done) x.dep with
      | true => i :: rdyGo done (i + 1) xs
      | false => rdyGo done (i + 1) xs

def apartM (x y : Inf) : Bool :=
  match (match x.dst with
    | some d => (match bitB y.look d with
      | true => false
      | false => (match y.dst with | some d' => !(Nat.beq d' d) | none => true))
    | none => true) with
  | false => false
  | true => (match y.dst with | some d => !(bitB x.look d) | none => true)

def okGo (done i : Nat) (xi : Inf) (calm : Bool) : Nat → List Inf → Bool
  | _, [] => true
  | j, x :: xs => match Nat.beq j i with
    | true => okGo done i xi calm (j + 1) xs
    | false => match bitB done j with
      | true => okGo done i xi calm (j + 1) xs
      | false => match bitB x.dep i with
        | true => okGo done i xi calm (j + 1) xs
        | false => match apartM xi x with
          | false => false
          | true => match calm, x.cls with
            | true, .wild => false
            | _, _ => okGo done i xi calm (j + 1) xs

def takeM (infs : List Inf) (done i : Nat) : Bool :=
  match infs[i]? with
  | none => false
  | some xi => (match xi.cls with
    | .pure => okGo done i xi false 0 infs
    | .load => okGo done i xi true 0 infs
    | _ => false)

def allP : List Nat → (Nat → Prop) → Prop
  | [], _ => True
  | [i], f => f i
  | i :: r, f => f i ∧ allP r f

def runI (cx : Cx) (C : FuncId → List AV → H → (AV → H → Prop) → Prop) (ops : Array Oper) (i : Nat) (fr : Fr) (h : H) (K : Fr → H → Prop) : Prop :=
  match ops[i]? with
  | none => False
  | some o => opP cx C ops.toList o fr h K

def wany (cx : Cx) (C : FuncId → List AV → H → (AV → H → Prop) → Prop) (ops : Array Oper) (infs : List Inf) (Q : Exit → Fr → H → Prop) : Nat → Nat → Fr → H → Prop
  | 0, done, fr, h => (match rdyGo done 0 infs with
    | [] => Q .normal fr h
    | _ => False)
  | fuel + 1, done, fr, h => (match rdyGo done 0 infs with
    | [] => Q .normal fr h
    | rs => (match rs.find? (takeM infs done) with
      | some i => runI cx C ops i fr h fun fr' h' => wany cx C ops infs Q fuel (Nat.lor (Nat.pow 2 i) done) fr' h'
      | none => allP rs fun i => runI cx C ops i fr h fun fr' h' => wany cx C ops infs Q fuel (Nat.lor (Nat.pow 2 i) done) fr' h'))

def orZ (a b : Nat) : Nat := match a with | 0 => b | n + 1 => n + 1

/-- The number of the first region, and one; none: 0. -/
def firstReg : Code → Nat
  | .region id _ _ => id + 1
  | .seq a b => orZ (firstReg a) (firstReg b)
  | .cond _ a b => orZ (firstReg a) (firstReg b)
  | .block _ a => firstReg a
  | .loop a => firstReg a
  | _ => 0

def Fr.getP (fr : Fr) : Pl → Slot
  | .sl t => fr.sl.getD t (.v .junk)
  | .bx i o => match fr.loc[i]? with | some (_, cs) => .v (cs.getD o .junk) | none => .v .junk

def Fr.setP (fr : Fr) (p : Pl) (s : Slot) : Fr :=
  match p with
  | .sl t => ⟨fr.sl.set t s, fr.loc⟩
  | .bx i o => match s with
    | .v v => (match fr.loc[i]? with | some (e, cs) => ⟨fr.sl, fr.loc.set i (e, cs.set o v)⟩ | none => fr)
    | .lp _ _ => fr

/-- Nothing is kept but the number of slots, and of boxes and their cells. -/
def Fr.blank (fr : Fr) : Fr := ⟨fr.sl.map fun _ => .v .junk, fr.loc.map fun b => (b.1, b.2.map fun _ => .junk)⟩

def Fr.keep (fr0 fr : Fr) : List Pl → Fr
  | [] => fr
  | p :: r => (Fr.keep fr0 fr r).setP p (fr0.getP p)

def Fr.setPs (fr : Fr) : List (Pl × Sh) → List AV → Fr
  | [], _ => fr
  | _ :: _, [] => fr
  | p :: r, v :: vs => (Fr.setPs fr r vs).setP p.1 (.v v)

def getPs (fr : Fr) : List (Pl × Sh) → List Slot
  | [] => []
  | p :: r => fr.getP p.1 :: getPs fr r

def sameP (fr0 fr : Fr) : List Pl → Prop → Prop
  | [], X => X
  | p :: r, X => match fr.getP p, fr0.getP p with
    | .v a, .v b => a = b ∧ sameP fr0 fr r X
    | .lp i o, .lp j q => ifN i j (ifN o q (sameP fr0 fr r X))
    | _, _ => False

def CurH (ss : List Sh) : Type := CurTo ss (H → Prop)

def shs (ps : List (Pl × Sh)) : List Sh := ps.map (·.2)

def appS : (ss : List Sh) → CurTo ss (H → Prop) → List AV → H → Prop
  | [], I, vs, h => match vs with | [] => I h | _ :: _ => False
  | s :: ss, I, vs, h => match vs with | v :: vs => onC s v fun x => appS ss (I x) vs h | [] => False

def allS : (ss : List Sh) → (List AV → Prop) → Prop
  | [], F => F []
  | s :: ss, F => ∀ x : s.Ty, allS ss fun vs => F (s.inj x :: vs)

/-- Boxes that were made since are forgotten. -/
def Fr.cut (n : Nat) (fr : Fr) : Fr := ⟨fr.sl, fr.loc.take n⟩

/-! Where ways meet. -/
def ssShs : List SS → List Sh → List Sh
  | [], r => r
  | .var s :: l, r => s :: ssShs l r
  | .junk :: l, r => ssShs l r
  | .keep :: l, r => ssShs l r
  | .lp _ _ :: l, r => ssShs l r

def locShs : List (TypeId × List SS) → List Sh
  | [] => []
  | (_, l) :: r => ssShs l (locShs r)

def JS.shs (j : JS) : List Sh := ssShs j.sl (locShs j.loc)

def ssDrop : List SS → List AV → List AV
  | [], xs => xs
  | .var _ :: l, xs => ssDrop l xs.tail
  | .junk :: l, xs => ssDrop l xs
  | .keep :: l, xs => ssDrop l xs
  | .lp _ _ :: l, xs => ssDrop l xs

def ssSl : List SS → List Slot → List AV → List Slot
  | [], _, _ => []
  | .junk :: l, s, xs => .v .junk :: ssSl l s.tail xs
  | .keep :: l, s, xs => s.headD (.v .junk) :: ssSl l s.tail xs
  | .lp i o :: l, s, xs => .lp i o :: ssSl l s.tail xs
  | .var _ :: l, s, xs => .v (xs.headD .junk) :: ssSl l s.tail xs.tail

def ssCs : List SS → List AV → List AV → List AV
  | [], _, _ => []
  | .junk :: l, s, xs => .junk :: ssCs l s.tail xs
  | .keep :: l, s, xs => s.headD .junk :: ssCs l s.tail xs
  | .lp _ _ :: l, s, xs => .junk :: ssCs l s.tail xs
  | .var _ :: l, s, xs => xs.headD .junk :: ssCs l s.tail xs.tail

def locFr : List (TypeId × List SS) → List Box → List AV → List Box
  | [], _, _ => []
  | (t, l) :: r, bs, xs => (t, ssCs l (bs.headD (0, [])).2 xs) :: locFr r bs.tail (ssDrop l xs)

def JS.frame (j : JS) (fr : Fr) (xs : List AV) : Fr := ⟨ssSl j.sl fr.sl xs, locFr j.loc fr.loc (ssDrop j.sl xs)⟩

def ifLt (a b : Nat) (X : Prop) : Prop := match Nat.blt a b with | true => X | false => False

def ssEnd (n : Nat) : List SS → List Slot → List Slot → (List AV → Prop) → Prop
  | [], _, [], K => K []
  | .junk :: l, bs, _ :: es, K => ssEnd n l bs.tail es K
  | .keep :: l, b :: bs, e :: es, K => (match e, b with
    | .v x, .v y => x = y ∧ ssEnd n l bs es K
    | .lp i o, .lp i' o' => ifLt i n (ifN i i' (ifN o o' (ssEnd n l bs es K)))
    | _, _ => False)
  | .lp i o :: l, bs, e :: es, K => (match e with
    | .lp i' o' => ifLt i n (ifN i i' (ifN o o' (ssEnd n l bs.tail es K)))
    | _ => False)
  | .var _ :: l, bs, e :: es, K => (match e with
    | .v x => ssEnd n l bs.tail es fun vs => K (x :: vs)
    | _ => False)
  | _, _, _, _ => False

def csEnd : List SS → List AV → List AV → (List AV → Prop) → Prop
  | [], _, [], K => K []
  | .junk :: l, bs, _ :: es, K => csEnd l bs.tail es K
  | .keep :: l, b :: bs, e :: es, K => e = b ∧ csEnd l bs es K
  | .var _ :: l, bs, e :: es, K => csEnd l bs.tail es fun vs => K (e :: vs)
  | _, _, _, _ => False

def locEnd : List (TypeId × List SS) → List Box → List Box → (List AV → Prop) → Prop
  | [], _, _, K => K []
  | (t, l) :: r, bs, (t', cs) :: es, K => ifN t t' (csEnd l (bs.headD (0, [])).2 cs fun vs => locEnd r bs.tail es fun ws => K (vs ++ ws))
  | _ :: _, _, [], _ => False

def JS.ends (j : JS) (fr fr' : Fr) (K : List AV → Prop) : Prop :=
  ifLe fr.loc.length j.loc.length (ssEnd j.loc.length j.sl fr.sl fr'.sl fun vs => locEnd j.loc fr.loc fr'.loc fun ws => K (vs ++ ws))

def wpx (cx : Cx) (C : FuncId → List AV → H → (AV → H → Prop) → Prop) : Code → (Exit → Fr → H → Prop) → Fr → H → Prop
  | .skip, Q, fr, h => Q .normal fr h
  | .ret, Q, fr, h => Q .ret fr h
  | .exit id, Q, fr, h => Q (.exit id) fr h
  | .seq a b, Q, fr, h => (match (cx.joins.find? fun l => Nat.beq l.1 (firstReg b)) with
    | none => wpx cx C a (fun e fr h => match e with | .normal => wpx cx C b Q fr h | e => Q e fr h) fr h
    | some (_, js) => ∀ J : CurH js.shs,
        (allS js.shs fun xs => ∀ h1 : H, wpx cx C b Q (js.frame fr xs) h1 → appS js.shs J xs h1) →
        wpx cx C a (fun e fr' h' => match e with
          | .normal => js.ends fr fr' fun vs => appS js.shs J vs h'
          | e => Q e fr' h') fr h)
  | .cond c a b, Q, fr, h => boolP (fr.ev cx 0 c) fun t => ifB t (wpx cx C a Q fr h) (wpx cx C b Q fr h)
  | .block id a, Q, fr, h => wpx cx C a (fun e fr h => match e with
      | .exit id' => (match Nat.beq id' id with | true => Q .normal fr h | false => Q (.exit id') fr h)
      | e => Q e fr h) fr h
  | .region _ ops false, Q, fr, h => wops cx C ops.toList Q ops.toList fr h
  | .region _ ops true, Q, fr, h => (match Region.noSelect ops with | true => wany cx C ops (ops.toList.map (infOf cx ops)) Q ops.toList.length 0 fr h | false => False)
  | .loop a, Q, fr, h => match (cx.loops.find? fun l => Nat.beq l.1 (firstReg a)) with
    | none => False
    | some (_, ps, cs) => ∀ I : CurH (shs ps),
        (allS (shs ps) fun xs => ∀ h1 : H, wpx cx C a (fun e fr' h' => match e with
            | .normal => sameP fr (fr'.cut fr.loc.length) cs (slotsV (getPs (fr'.cut fr.loc.length) ps) fun vs => appS (shs ps) I vs h')
            | e => Q e fr' h') ((Fr.keep fr fr.blank cs).setPs ps xs) h1 → appS (shs ps) I xs h1) →
        slotsV (getPs fr ps) fun vs => appS (shs ps) I vs h
  | _, _, _, _ => False

def resP (cx : Cx) (fr : Fr) (h : H) : List ResultVar → (List AV → Prop) → Prop
  | [], K => K []
  | .tmp t :: r, K => slotV (fr.sl.getD t undefS) fun v => resP cx fr h r fun vs => K (v :: vs)
  | .cell a T :: r, K => (match fr.sl.getD a undefS with
    | .lp i off => (match fr.loc[i]? with
      | some (_, cs) => knownP (cx.ti T) (match (cx.ti T).agg with
        | true => takeP cs off (cx.ti T).size fun cs => resP cx fr h r fun vs => K (.agg cs :: vs)
        | false => (match cs[off]? with | some c => resP cx fr h r fun vs => K (c :: vs) | none => False))
      | none => False)
    | .v p => ldM h p (cx.ti T).size fun cs => readP cx T cs fun v => resP cx fr h r fun vs => K (v :: vs))

def retP (cx : Cx) (fr : Fr) (h : H) (rs : List ResultVar) (Q : AV → H → Prop) : Prop :=
  resP cx fr h rs fun vs => match vs with | [v] => Q v h | vs => Q (.tup vs) h

/-- What a call of a function asks. -/
def fnx (cx : Cx) (C : FuncId → List AV → H → (AV → H → Prop) → Prop) (fn : Func) (args : List AV) (h : H) (Q : AV → H → Prop) : Prop :=
  match fn.body with
  | none => False
  | some c => wpx cx C c (fun e fr h => match e with | .normal => retP cx fr h fn.results.toList Q | .ret => retP cx fr h fn.results.toList Q | _ => False)
      ⟨args.map .v ++ List.replicate (fn.ntmps - args.length) undefS, []⟩ h

end Go.AM

namespace Go.AM
open Go

def SR (g : Gh) (l : List Nat) : Slot → Value → Prop
  | .v x, v => VR g x v
  | .lp i off, v => ∃ b, l[i]? = some b ∧ v = .pointer (some ⟨b, off, none⟩)

theorem SR.mono {g g' : Gh} {l l' : List Nat} {s : Slot} {v : Value} (hg : g.le g') (hl : ∀ (i b : Nat), l[i]? = some b → l'[i]? = some b) (h : SR g l s v) : SR g' l' s v := by
  cases s with
  | v x => exact VR.mono hg h
  | lp i off => obtain ⟨b, h1, h2⟩ := h; exact ⟨b, hl _ _ h1, h2⟩

def H.withL : H → List Nat → List Box → H
  | h, b :: l, (e, cs) :: loc => (H.withL h l loc).put b (.cells e cs)
  | h, _, _ => h

section withL
variable {h : H}
theorem H.withL_t : ∀ (l : List Nat) (loc : List Box), (h.withL l loc).t = h.t
  | [], _ => rfl
  | _ :: _, [] => rfl
  | _ :: l, (_, _) :: loc => H.withL_t l loc
theorem H.withL_not : ∀ (l : List Nat) (loc : List Box) {b : Nat}, b ∉ l → (h.withL l loc).m b = h.m b
  | [], _, _, _ => rfl
  | _ :: _, [], _, _ => rfl
  | x :: l, (_, _) :: loc, b, hb => by
    simp only [List.mem_cons, not_or] at hb
    simp [H.withL, H.put, hb.1, H.withL_not l loc hb.2]
theorem H.withL_mem : ∀ (l : List Nat) (loc : List Box), l.Nodup → ∀ {i b : Nat} {x : Box}, l[i]? = some b → loc[i]? = some x → (h.withL l loc).m b = some (.cells x.1 x.2)
  | [], _, _, i, b, x, h1, _ => by simp at h1
  | _ :: _, [], _, i, b, x, _, h2 => by simp at h2
  | y :: l, (e, cs) :: loc, hn, 0, b, x, h1, h2 => by
    simp at h1 h2; subst h1; subst h2; simp [H.withL, H.put]
  | y :: l, (e, cs) :: loc, hn, i + 1, b, x, h1, h2 => by
    simp at h1 h2
    have hne : b ≠ y := by rintro rfl; exact (List.nodup_cons.1 hn).1 (List.mem_of_getElem? h1)
    simp [H.withL, H.put, hne]
    exact H.withL_mem l loc (List.nodup_cons.1 hn).2 h1 h2
theorem H.put_comm {a b : Nat} {x y : MObj} (hne : a ≠ b) : (h.put a x).put b y = (h.put b y).put a x := by
  unfold H.put
  congr 1
  funext k
  by_cases h1 : k = a <;> by_cases h2 : k = b <;> simp_all
theorem H.put_put {a : Nat} {x y : MObj} : (h.put a x).put a y = h.put a y := by
  unfold H.put
  congr 1
  funext k
  by_cases h1 : k = a <;> simp_all
theorem H.withL_put : ∀ (l : List Nat) (loc : List Box) {n : Nat} {o : MObj}, n ∉ l → (h.put n o).withL l loc = (h.withL l loc).put n o
  | [], _, _, _, _ => rfl
  | _ :: _, [], _, _, _ => rfl
  | y :: l, (_, _) :: loc, n, o, hn => by
    simp only [List.mem_cons, not_or] at hn
    simp only [H.withL, H.withL_put l loc hn.2]
    exact H.put_comm hn.1
theorem H.withL_tput : ∀ (l : List Nat) (loc : List Box) {n e : Nat}, (h.tput n e).withL l loc = (h.withL l loc).tput n e
  | [], _, _, _ => rfl
  | _ :: _, [], _, _ => rfl
  | y :: l, (_, _) :: loc, n, o => by simp only [H.withL, H.withL_tput l loc]; rfl
theorem H.withL_tdel : ∀ (l : List Nat) (loc : List Box) {n : Nat}, (h.tdel n).withL l loc = (h.withL l loc).tdel n
  | [], _, _ => rfl
  | _ :: _, [], _ => rfl
  | y :: l, (_, _) :: loc, n => by simp only [H.withL, H.withL_tdel l loc]; rfl
theorem H.withL_set : ∀ (l : List Nat) (loc : List Box), l.Nodup → ∀ {i b : Nat} {x y : Box}, l[i]? = some b → loc[i]? = some x →
    h.withL l (loc.set i y) = (h.withL l loc).put b (.cells y.1 y.2)
  | [], _, _, i, b, x, y, h1, _ => by simp at h1
  | _ :: _, [], _, i, b, x, y, _, h2 => by simp at h2
  | z :: l, (e, cs) :: loc, hn, 0, b, x, y, h1, h2 => by
    simp at h1; subst h1; obtain ⟨y1, y2⟩ := y; simp [H.withL, H.put_put]
  | z :: l, (e, cs) :: loc, hn, i + 1, b, x, y, h1, h2 => by
    simp at h1 h2
    have hne : b ≠ z := by rintro rfl; exact (List.nodup_cons.1 hn).1 (List.mem_of_getElem? h1)
    simp only [List.set_cons_succ, H.withL, H.withL_set l loc (List.nodup_cons.1 hn).2 h1 h2]
    exact H.put_comm hne
theorem H.withL_append : ∀ (l : List Nat) (loc : List Box) {n : Nat} {x : Box}, l.length = loc.length → n ∉ l → h.withL (l ++ [n]) (loc ++ [x]) = (h.withL l loc).put n (.cells x.1 x.2)
  | [], [], n, x, _, _ => by obtain ⟨e, cs⟩ := x; rfl
  | [], _ :: _, _, _, hl, _ => by simp at hl
  | _ :: _, [], _, _, hl, _ => by simp at hl
  | z :: l, (e, cs) :: loc, n, x, hl, hn => by
    simp only [List.mem_cons, not_or] at hn
    simp only [List.cons_append, H.withL, H.withL_append l loc (by simpa using hl) hn.2]
    exact H.put_comm hn.1
theorem H.withL_take : ∀ (l : List Nat) (loc : List Box) (n : Nat), l.Nodup → (h.withL (l.take n) (loc.take n)).le (h.withL l loc) ∨ ∃ b ∈ l, h.m b ≠ none
  | [], _, n, _ => .inl (by simp [H.withL, H.le])
  | _ :: _, [], n, _ => .inl (by cases n <;> simp [H.withL, H.le])
  | z :: l, (e, cs) :: loc, 0, hn => by
    by_cases hz : ∃ b ∈ z :: l, h.m b ≠ none
    · exact .inr hz
    · left
      refine ⟨fun b o hb => ?_, fun b e' hb => by rw [H.withL_t]; simpa [H.withL] using hb⟩
      have hb' : h.m b = some o := by simpa [H.withL] using hb
      have : b ∉ z :: l := fun hm => hz ⟨b, hm, by simp [hb']⟩
      rw [H.withL_not (z :: l) ((e, cs) :: loc) this]; exact hb'
  | z :: l, (e, cs) :: loc, n + 1, hn => by
    rcases H.withL_take l loc n (List.nodup_cons.1 hn).2 with h1 | ⟨b, hb, h2⟩
    · left
      refine ⟨fun b o hb => ?_, fun b e' hb => ?_⟩
      · by_cases hz : b = z
        · subst hz; simpa [H.withL, H.put] using hb
        · simp [H.withL, H.put, hz] at hb ⊢; exact h1.1 b o hb
      · rw [H.withL_t] at hb ⊢; exact hb
    · exact .inr ⟨b, by simp [hb], h2⟩
end withL

/-- The state of a call under way. -/
structure SI (h0 : H) (w0 : World) (g0 g : Gh) (h : H) (l : List Nat) (loc : List Box) (w : World) : Prop where
  inv : Inv h0 w0 g0 g (h.withL l loc) w
  len : l.length = loc.length
  nd : l.Nodup
  fr : ∀ b ∈ l, h.free b

section SI
variable {h0 h : H} {w0 w : World} {g0 g : Gh} {l : List Nat} {loc : List Box}

theorem SI.le (s : SI h0 w0 g0 g h l loc w) : h.le (h.withL l loc) :=
  ⟨fun b o hb => by
    have : b ∉ l := fun hm => by have := (s.fr b hm).1; rw [hb] at this; cases this
    rw [H.withL_not l loc this]; exact hb, fun b e hb => by rw [H.withL_t]; exact hb⟩
theorem SI.rel (s : SI h0 w0 g0 g h l loc w) : Rel g h w := s.inv.rel.weaken s.le
theorem SI.notin (s : SI h0 w0 g0 g h l loc w) {b : Nat} {o : MObj} (hb : h.m b = some o) : b ∉ l := fun hm => by
  have := (s.fr b hm).1; rw [hb] at this; cases this
theorem SI.tnotin (s : SI h0 w0 g0 g h l loc w) {b e : Nat} (hb : h.t b = some e) : b ∉ l := fun hm => by
  have := (s.fr b hm).2; rw [hb] at this; cases this
theorem SI.lt (s : SI h0 w0 g0 g h l loc w) {b : Nat} (hb : b ∈ l) : b < w.heap.size := by
  obtain ⟨i, hi⟩ := List.mem_iff_getElem?.1 hb
  have hlt : i < loc.length := by rw [← s.len]; exact (List.getElem?_eq_some_iff.1 hi).1
  exact s.inv.rel.block (H.withL_mem l loc s.nd hi (List.getElem?_eq_getElem hlt))
theorem SI.new (s : SI h0 w0 g0 g h l loc w) : w.heap.size ∉ l := fun hm => Nat.lt_irrefl _ (s.lt hm)
theorem SI.drew (s : SI h0 w0 g0 g h l loc w) : SI h0 w0 g0 g h l loc w.drew := ⟨s.inv.drew, s.len, s.nd, s.fr⟩

theorem H.free_put {n : Nat} {o : MObj} {b : Nat} (hb : h.free b) (hne : b ≠ n) : (h.put n o).free b := ⟨by simp [H.put, hne, hb.1], hb.2⟩

theorem SI.alloc (s : SI h0 w0 g0 g h l loc w) {o : MObj} {x : Obj} (ho : OR g o x) : SI h0 w0 g0 g (h.put w.heap.size o) l loc (w.alloc x) :=
  ⟨by rw [H.withL_put l loc s.new]; exact s.inv.alloc ho, s.len, s.nd, fun b hb => H.free_put (s.fr b hb) (Nat.ne_of_lt (s.lt hb))⟩

theorem SI.allocL (s : SI h0 w0 g0 g h l loc w) {T : TypeId} {cs : List AV} {vs : Array Value} (hv : VRs g cs vs.toList) :
    SI h0 w0 g0 g h (l ++ [w.heap.size]) (loc ++ [(T, cs)]) (w.alloc (.cells vs T)) := by
  refine ⟨?_, by simp [s.len], ?_, ?_⟩
  · rw [H.withL_append l loc s.len s.new]
    exact s.inv.alloc (o := .cells T cs) ⟨rfl, hv, rfl⟩
  · rw [List.nodup_append]
    exact ⟨s.nd, by simp, fun a ha b hb => by simp at hb; subst hb; exact Nat.ne_of_lt (s.lt ha)⟩
  · intro b hb
    simp at hb
    rcases hb with hb | rfl
    · exact s.fr b hb
    · exact s.rel.free_new

theorem SI.setm (s : SI h0 w0 g0 g h l loc w) {b : Nat} {o o' : MObj} (hb : h.m b = some o) {w' : World} {x : Obj} (ho : OR g o' x)
    (hx : w'.heap[b]? = some x) (hoth : ∀ k, k ≠ b → w'.heap[k]? = w.heap[k]?) (hs : w'.heap.size = w.heap.size)
    (ht : w'.tape = w.tape) (hos : w'.os = w.os) (hout : w'.output = w.output) : SI h0 w0 g0 g (h.put b o') l loc w' := by
  have hn := s.notin hb
  refine ⟨?_, s.len, s.nd, fun k hk => H.free_put (s.fr k hk) (fun e => hn (e ▸ hk))⟩
  rw [H.withL_put l loc hn]
  exact s.inv.setm (o := o) (by rw [H.withL_not l loc hn]; exact hb) ho hx hoth hs ht hos hout

theorem SI.setL (s : SI h0 w0 g0 g h l loc w) {i b : Nat} {e : TypeId} {cs cs' : List AV} (hi : l[i]? = some b) (hl : loc[i]? = some (e, cs)) {w' : World} {vs : Array Value}
    (hv : VRs g cs' vs.toList) (hx : w'.heap[b]? = some (.cells vs e (0, 0))) (hoth : ∀ k, k ≠ b → w'.heap[k]? = w.heap[k]?) (hs : w'.heap.size = w.heap.size)
    (ht : w'.tape = w.tape) (hos : w'.os = w.os) (hout : w'.output = w.output) : SI h0 w0 g0 g h l (loc.set i (e, cs')) w' := by
  refine ⟨?_, by simp [s.len], s.nd, s.fr⟩
  rw [H.withL_set l loc s.nd hi hl]
  exact s.inv.setm (o := .cells e cs) (o' := .cells e cs') (x := .cells vs e (0, 0)) (H.withL_mem l loc s.nd hi hl) ⟨rfl, hv, rfl⟩ hx hoth hs ht hos hout
end SI

/-! The table of types, as the program has it. -/
def TDok (P : Program) (t : TypeId) : TD → Prop
  | .int k => P.underlying t = some (.int k)
  | .bool => P.underlying t = some .bool
  | .str => P.underlying t = some .string
  | .flt k => P.underlying t = some (.float k)
  | .slice e => P.underlying t = some (.slice e)
  | .arr n e => P.underlying t = some (.array n e)
  | .ptr e => P.underlying t = some (.pointer e)
  | .map k e => P.underlying t = some (.map k e)
  | .strct fs => ∃ F, P.underlying t = some (.struct F) ∧ F.toList.map (fun f => (f.offset, f.type)) = fs
  | .iface => ∃ ms, P.underlying t = some (.interface ms)
  | .func => ∃ a b c, P.underlying t = some (.func a b c)
  | .tup ts => ∃ x, P.underlying t = some (.tuple x) ∧ x.toList = ts
  | .other => True

structure TIok (P : Program) (t : TypeId) (i : TI) : Prop where
  d : TDok P t i.d
  info : i.d.isOther = false → ∃ x, P.info? t = some x ∧ x.size = i.size ∧ x.bytes = i.bytes
  one : i.agg = false → i.d.isOther = false → i.size = 1
  bytes : ∀ x, P.info? t = some x → i.zero.isJunk = false → x.bytes = i.bytes
  zero : i.zero.isJunk = false → ∃ x z, P.info? t = some x ∧ x.size = i.size ∧ x.zero = some z ∧ z.cells.size = i.size ∧ ∀ g, VR g i.zero z

def TyOK (cx : Cx) : Prop := ∀ t, TIok cx.P t (cx.ti t)

def GlOK (gl : Nat → AV) (g : Gh) : Prop := ∀ k, VR g (gl k) (.pointer (some ⟨k, 0, none⟩))
theorem GlOK.mono {gl : Nat → AV} {g g' : Gh} (hle : g.le g') (h : GlOK gl g) : GlOK gl g' := fun k => (h k).mono hle

structure FRel (g : Gh) (l : List Nat) (fr : Fr) (a : Act) : Prop where
  defers : a.defers = []
  size : fr.sl.length = a.tmps.size
  slot : ∀ (i : Nat) (s : Slot) (v : Value), fr.sl[i]? = some s → a.tmps[i]? = some v → SR g l s v

theorem FRel.mono {g g' : Gh} {l l' : List Nat} {fr : Fr} {a : Act} (hg : g.le g') (hl : ∀ (i b : Nat), l[i]? = some b → l'[i]? = some b) (h : FRel g l fr a) : FRel g' l' fr a :=
  ⟨h.defers, h.size, fun i s v h1 h2 => (h.slot i s v h1 h2).mono hg hl⟩

theorem FRel.put {g : Gh} {l : List Nat} {fr : Fr} {a : Act} (h : FRel g l fr a) (dst : Option Tmp) {s : Slot} {v : Value} (hs : SR g l s v) (loc : List Box) :
    FRel g l (fr.put dst s loc) (a.put dst v) := by
  cases dst with
  | none => exact ⟨h.defers, h.size, h.slot⟩
  | some d =>
    refine ⟨h.defers, by simp [Fr.put, Act.put, h.size], fun i s' v' h1 h2 => ?_⟩
    simp only [Fr.put, Act.put, List.getElem?_set, Array.getElem?_setIfInBounds] at h1 h2
    by_cases e : d = i
    · subst e
      simp only [if_true] at h1 h2
      split at h1
      · split at h2
        · cases h1; cases h2; exact hs
        · cases h2
      · cases h1
    · simp only [e, if_false] at h1 h2
      exact h.slot i s' v' h1 h2

theorem undef_sr {g : Gh} {l : List Nat} : SR g l undefS undef := VR.tup [] [] .nil

theorem ofV_vr {g : Gh} (cx : Cx) (t : TypeId) (v : Value) : VR g (ofV cx t v) v := by
  unfold ofV
  split <;> first
    | exact .bool _
    | exact .int _ _
    | exact .flt _ _
    | exact .nil
    | exact .map _
    | exact .nilF
    | exact .nilI
    | exact .junk _
    | exact .lstn _ _ trivial
    | (rename_i s; have e : (⟨s.data.toList.toArray⟩ : ByteArray) = s := by cases s; simp
       have := VR.str (g := g) s.data.toList; rw [e] at this; exact this)

theorem FRel.ev {g : Gh} {l : List Nat} {fr : Fr} {a : Act} (h : FRel g l fr a) (cx : Cx) (hgl : GlOK cx.gl g) (t : TypeId) (x : Operand) : SR g l (fr.ev cx t x) (a.eval x) := by
  cases x with
  | tmp i =>
    simp only [Fr.ev, Act.eval]
    rcases Nat.lt_or_ge i fr.sl.length with hi | hi
    · have hi' : i < a.tmps.size := by rw [← h.size]; exact hi
      rw [List.getD_eq_getElem?_getD, List.getElem?_eq_getElem hi, Array.getD_eq_getD_getElem?, Array.getElem?_eq_getElem hi']
      exact h.slot i _ _ (List.getElem?_eq_getElem hi) (Array.getElem?_eq_getElem hi')
    · have hi' : a.tmps.size ≤ i := by rw [← h.size]; exact hi
      rw [List.getD_eq_getElem?_getD, List.getElem?_eq_none hi, Array.getD_eq_getD_getElem?, Array.getElem?_eq_none hi']
      exact undef_sr
  | const v => exact ofV_vr cx t v
  | global k => exact hgl k
  | func f => exact VR.fn f [] [] [] [] .nil .nil

theorem FRel.evV {g : Gh} {l : List Nat} {fr : Fr} {a : Act} (h : FRel g l fr a) (cx : Cx) (hgl : GlOK cx.gl g) (t : TypeId) (x : Operand) {v : AV} (hv : fr.ev cx t x = .v v) : VR g v (a.eval x) := by
  have := h.ev cx hgl t x
  rw [hv] at this
  exact this

end Go.AM

namespace Go.AM
open Go

/-! The words of the texts, opened. -/
theorem ifN_elim {a b : Nat} {X : Prop} (h : ifN a b X) : a = b ∧ X := by
  unfold ifN at h
  cases e : Nat.beq a b with
  | true => rw [e] at h; exact ⟨Nat.eq_of_beq_eq_true e, h⟩
  | false => rw [e] at h; exact h.elim
theorem ik_inj {a b : IntKind} (h : ik a = ik b) : a = b := by cases a <;> cases b <;> simp_all [ik]
theorem fk_inj {a b : FloatKind} (h : fk a = fk b) : a = b := by cases a <;> cases b <;> simp_all [fk]
theorem ifB_elim {b : Bool} {X Y : Prop} (h : ifB b X Y) : (b = true ∧ X) ∨ (b = false ∧ Y) := by
  cases b
  · exact .inr ⟨rfl, h⟩
  · exact .inl ⟨rfl, h⟩
theorem onC_elim {s : Sh} {v : AV} {K : s.Ty → Prop} (h : onC s v K) : ∃ x, v = s.inj x ∧ K x := by
  cases s with
  | I k => cases v <;> simp only [onC] at h <;> first | exact h.elim | (obtain ⟨e, h⟩ := ifN_elim h; obtain rfl := ik_inj e; exact ⟨_, rfl, h⟩)
  | B => cases v <;> simp only [onC] at h <;> first | exact h.elim | exact ⟨_, rfl, h⟩
  | S => cases v <;> simp only [onC] at h <;> first | exact h.elim | exact ⟨_, rfl, h⟩
  | F k => cases v <;> simp only [onC] at h <;> first | exact h.elim | (obtain ⟨e, h⟩ := ifN_elim h; obtain rfl := fk_inj e; exact ⟨_, rfl, h⟩)
  | O => exact ⟨v, rfl, h⟩
theorem onCs_elim {R : Type} : ∀ {ss : List Sh} {cs : List AV} {F : List AV → R} {k : R → Prop}, onCs ss cs (curryTo ss F) k → k (F cs)
  | [], [], _, _, h => h
  | [], _ :: _, _, _, h => h.elim
  | _ :: _, [], _, _, h => h.elim
  | s :: ss, c :: cs, F, k, h => by
    obtain ⟨x, rfl, h'⟩ := onC_elim (s := s) h
    exact onCs_elim (F := fun xs => F (s.inj x :: xs)) h'
theorem onA_elim {ss : List Sh} {v : AV} {F : List AV → Prop} (h : onA ss v (curryTo ss F)) : ∃ cs, v = .agg cs ∧ F cs := by
  cases v <;> simp only [onA] at h <;> first | exact h.elim | exact ⟨_, rfl, onCs_elim (k := id) h⟩
theorem onK_elim {R : Type} {c : Comp} {v : AV} {F : List AV → R} {k : R → Prop} (h : onK c v (curryTo c.2 F) k) : ∃ cs, v = compV c cs ∧ k (F cs) := by
  obtain ⟨b, ss⟩ := c
  cases b with
  | true => cases v <;> simp only [onK] at h <;> first | exact h.elim | exact ⟨_, rfl, onCs_elim h⟩
  | false => exact ⟨[v], rfl, onCs_elim h⟩
theorem onTs_elim : ∀ {cs : List Comp} {vs : List AV} {F : List AV → Prop}, onTs cs vs (curryT cs F) → F vs
  | [], [], _, h => h
  | [], _ :: _, _, h => h.elim
  | _ :: _, [], _, h => h.elim
  | c :: r, v :: vs, F, h => by
    obtain ⟨xs, rfl, h'⟩ := onK_elim (F := fun xs => curryT r fun vs => F (compV c xs :: vs)) h
    exact onTs_elim (F := fun vs => F (compV c xs :: vs)) h'
theorem onT_elim {cs : List Comp} {v : AV} {F : List AV → Prop} (h : onT cs v (curryT cs F)) : ∃ vs, v = .tup vs ∧ F vs := by
  cases v <;> simp only [onT] at h <;> first | exact h.elim | exact ⟨_, rfl, onTs_elim h⟩
theorem aggP_elim {ss : List Sh} {v : AV} {K : AV → Prop} (h : aggP ss v K) : ∃ cs, v = .agg cs ∧ K v := by
  cases ss with
  | nil => cases v <;> simp only [aggP] at h <;> first | exact h.elim | exact ⟨_, rfl, h⟩
  | cons s ss => obtain ⟨cs, rfl, h'⟩ := onA_elim (ss := s :: ss) (F := fun xs => K (.agg xs)) h; exact ⟨cs, rfl, h'⟩
theorem typP_elim {cx : Cx} {t : TypeId} {v : AV} {K : AV → Prop} (h : typP cx t v K) : K v ∧ (cx.ti t).d.isOther = false := by
  unfold typP at h
  cases hd : (cx.ti t).d with
  | int k => simp only [hd] at h; obtain ⟨x, rfl, h'⟩ := onC_elim (s := .I k) h; exact ⟨h', rfl⟩
  | bool => simp only [hd] at h; obtain ⟨x, rfl, h'⟩ := onC_elim (s := .B) h; exact ⟨h', rfl⟩
  | str => simp only [hd] at h; obtain ⟨x, rfl, h'⟩ := onC_elim (s := .S) h; exact ⟨h', rfl⟩
  | flt k => simp only [hd] at h; obtain ⟨x, rfl, h'⟩ := onC_elim (s := .F k) h; exact ⟨h', rfl⟩
  | slice e => simp only [hd] at h; exact ⟨h, rfl⟩
  | arr n e => simp only [hd] at h; obtain ⟨cs, _, h⟩ := aggP_elim h; exact ⟨h, rfl⟩
  | ptr e => simp only [hd] at h; exact ⟨h, rfl⟩
  | map a b => simp only [hd] at h; exact ⟨h, rfl⟩
  | strct fs => simp only [hd] at h; obtain ⟨cs, _, h⟩ := aggP_elim h; exact ⟨h, rfl⟩
  | iface => simp only [hd] at h; exact ⟨h, rfl⟩
  | func => simp only [hd] at h; exact ⟨h, rfl⟩
  | tup ts => simp only [hd] at h; obtain ⟨vs, rfl, h'⟩ := onT_elim (F := fun vs => K (.tup vs)) h; exact ⟨h', rfl⟩
  | other => simp only [hd] at h
theorem readP_elim {cx : Cx} {t : TypeId} {cs : List AV} {K : AV → Prop} (h : readP cx t cs K) :
    ((cx.ti t).agg = true ∧ K (.agg cs) ∨ (cx.ti t).agg = false ∧ ∃ c, cs = [c] ∧ K c) ∧ (cx.ti t).d.isOther = false := by
  unfold readP at h
  cases ha : (cx.ti t).agg <;> rw [ha] at h <;> simp only at h
  · match cs, h with
    | [c], h => exact ⟨.inr ⟨rfl, c, rfl, (typP_elim h).1⟩, (typP_elim h).2⟩
  · exact ⟨.inl ⟨rfl, (typP_elim h).1⟩, (typP_elim h).2⟩
theorem slotV_elim {s : Slot} {K : AV → Prop} (h : slotV s K) : ∃ v, s = .v v ∧ K v := by
  cases s with
  | v x => exact ⟨x, rfl, h⟩
  | lp i o => exact h.elim
theorem boolP_elim {s : Slot} {K : Bool → Prop} (h : boolP s K) : ∃ b, s = .v (.bool b) ∧ K b := by
  unfold boolP at h
  split at h
  · exact ⟨_, rfl, h⟩
  · exact h.elim
theorem intP_elim {s : Slot} {K : IntKind → Int → Prop} (h : intP s K) : ∃ k n, s = .v (.int k n) ∧ K k n := by
  unfold intP at h
  split at h
  · exact ⟨_, _, rfl, h⟩
  · exact h.elim
theorem oneP_elim {v : AV} {X : Prop} (h : oneP v X) : v.one = true ∧ X := by
  unfold oneP at h
  cases e : v.one <;> rw [e] at h
  · exact h.elim
  · exact ⟨rfl, h⟩
theorem takeP_elim {cs : List AV} {o n : Nat} {K : List AV → Prop} (h : takeP cs o n K) : o + n ≤ cs.length ∧ K ((cs.drop o).take n) := by
  unfold takeP at h
  cases e : Nat.ble (o + n) cs.length <;> rw [e] at h
  · exact h.elim
  · exact ⟨Nat.le_of_ble_eq_true e, h⟩
theorem cellsP_elim {v : AV} {K : List AV → Prop} (h : cellsP v K) : K v.cells ∧ v ≠ .junk := by
  cases v <;> simp only [cellsP, AV.cells] at h ⊢ <;> first | exact h.elim | exact ⟨h, by simp⟩
theorem nnP_elim {v : AV} {X : Prop} (h : nnP v X) : X ∧ ((∃ b o, v = .ptr (some (b, o))) ∨ (∃ cs o, v = .ept cs o) ∨ (∃ s xs i o, v = .elp s xs i o) ∨ (∃ f a b, v = .fn f a b) ∨ ∃ t x, v = .ifc t x) := by
  unfold nnP at h
  split at h
  · rename_i a; obtain ⟨b, o⟩ := a; exact ⟨h, .inl ⟨b, o, rfl⟩⟩
  · exact ⟨h, .inr (.inl ⟨_, _, rfl⟩)⟩
  · exact ⟨h, .inr (.inr (.inl ⟨_, _, _, _, rfl⟩))⟩
  · exact ⟨h, .inr (.inr (.inr (.inl ⟨_, _, _, rfl⟩)))⟩
  · exact ⟨h, .inr (.inr (.inr (.inr ⟨_, _, rfl⟩)))⟩
  · exact h.elim

section
variable {P : Program} {w : World}

theorem run_under {t : TypeId} {d : TypeDesc} (h : P.underlying t = some d) : (underlying t).run P w = .ok d w := run_underlying h w
theorem run_size {t : TypeId} {i : TI} (h : TIok P t i) (hd : i.d.isOther = false) : (sizeOf t).run P w = .ok i.size w := by
  obtain ⟨x, h1, h2, _⟩ := h.info hd
  simp [sizeOf, typeInfo, h1, h2]
theorem run_isAgg {t : TypeId} {i : TI} (h : TIok P t i) (hd : i.d.isOther = false) : (isAgg t).run P w = .ok i.agg w := by
  have hk := h.d
  unfold TI.agg
  cases e : i.d <;> rw [e] at hk hd <;> simp only [TDok] at hk <;> first
    | (simp [TD.isOther] at hd; done)
    | (simp [isAgg, run_under hk]; done)
    | (obtain ⟨F, hk, _⟩ := hk; simp [isAgg, run_under hk]; done)
    | (obtain ⟨F, hk⟩ := hk; simp [isAgg, run_under hk]; done)
    | (obtain ⟨F, G, H, hk⟩ := hk; simp [isAgg, run_under hk]; done)
end

/-! Reading. -/
section read
variable {g : Gh} {h : H} {w : World} {P : Program}

theorem getElem?_take_drop {α : Type} {cs : List α} {o n j : Nat} {x : α} (h : ((cs.drop o).take n)[j]? = some x) : j < n ∧ cs[o + j]? = some x := by
  rw [List.getElem?_take] at h
  split at h
  · rename_i hj; rw [List.getElem?_drop] at h; exact ⟨hj, h⟩
  · cases h

theorem flat_get : ∀ {xs : List AV} {sz i : Nat} {x : AV}, (∀ x ∈ xs, x.cells.length = sz) → xs[i]? = some x → ∀ {j : Nat} {c : AV}, x.cells[j]? = some c → (xs.flatMap AV.cells)[i * sz + j]? = some c
  | [], _, _, _, _, h, _, _, _ => by simp at h
  | y :: xs, sz, 0, x, hs, h, j, c, hj => by
    simp at h; subst h
    simp only [List.flatMap_cons, Nat.zero_mul, Nat.zero_add]
    rw [List.getElem?_append_left]
    · exact hj
    · exact (List.getElem?_eq_some_iff.1 hj).1
  | y :: xs, sz, i + 1, x, hs, h, j, c, hj => by
    simp at h
    have hy := hs y (by simp)
    simp only [List.flatMap_cons]
    rw [List.getElem?_append_right (by rw [hy, Nat.add_mul]; omega), hy]
    have := flat_get (fun z hz => hs z (by simp [hz])) h hj
    rw [← this]
    congr 1
    rw [Nat.add_mul]; omega

theorem cell_im (r : Rel g h w) {b o : Nat} {vs : List Value} (hh : g.has b o vs) {j : Nat} {v : Value} (hj : vs[j]? = some v) : w.cell? ⟨b, o + j, none⟩ = some v :=
  r.im _ _ _ (hh j v hj)

theorem ldM_elim (r : Rel g h w) {p : AV} {pv : Value} (hp : VR g p pv) {n : Nat} {K : List AV → Prop} (hk : ldM h p n K) :
    ∃ cs b o, pv = .pointer (some ⟨b, o, none⟩) ∧ cs.length = n ∧ K cs ∧ ∀ (j : Nat) (c : AV), cs[j]? = some c → ∃ v, w.cell? ⟨b, o + j, none⟩ = some v ∧ VR g c v := by
  cases hp <;> simp only [ldM] at hk <;> first
    | exact hk.elim
    | skip
  · rename_i b o
    split at hk
    · rename_i e cs hb
      obtain ⟨hl, hk⟩ := takeP_elim hk
      refine ⟨_, b, o, rfl, by simp; omega, hk, fun j c hj => ?_⟩
      exact r.cell hb (getElem?_take_drop hj).2
    · exact hk.elim
  · rename_i cs off vs b o hs hh
    obtain ⟨hl, hk⟩ := takeP_elim hk
    refine ⟨_, b, o + off, rfl, by simp; omega, hk, fun j c hj => ?_⟩
    obtain ⟨v, h1, h2⟩ := hs.get (getElem?_take_drop hj).2
    exact ⟨v, by rw [Nat.add_assoc]; exact cell_im r hh h1, h2⟩
  · rename_i sz xs i off vs b o hs hsz hh
    split at hk
    · rename_i x hx
      obtain ⟨hk, _⟩ := cellsP_elim hk
      obtain ⟨hl, hk⟩ := takeP_elim hk
      refine ⟨_, b, o + i * sz + off, rfl, by simp; omega, hk, fun j c hj => ?_⟩
      have := flat_get hsz hx (getElem?_take_drop hj).2
      obtain ⟨v, h1, h2⟩ := hs.get this
      exact ⟨v, by rw [show o + i * sz + off + j = o + (i * sz + (off + j)) from by omega]; exact cell_im r hh h1, h2⟩
    · exact hk.elim

/-- The values of cells that are known one by one. -/
theorem cells_list {cs : List AV} {b o : Nat} (hc : ∀ (j : Nat) (c : AV), cs[j]? = some c → ∃ v, w.cell? ⟨b, o + j, none⟩ = some v ∧ VR g c v) :
    ∃ vs : List Value, VRs g cs vs ∧ ∀ j v, vs[j]? = some v → w.cell? ((⟨b, o, none⟩ : Addr).add j) = some v := by
  induction cs generalizing o with
  | nil => exact ⟨[], .nil, fun j v h => by simp at h⟩
  | cons c cs ih =>
    obtain ⟨v0, h1, h2⟩ := hc 0 c (by simp)
    obtain ⟨vs, h3, h4⟩ := ih (o := o + 1) fun j c' hj => by
      obtain ⟨v, h5, h6⟩ := hc (j + 1) c' (by simpa using hj)
      exact ⟨v, by rw [show o + 1 + j = o + (j + 1) from by omega]; exact h5, h6⟩
    refine ⟨v0 :: vs, .cons h2 h3, fun j v hj => ?_⟩
    rw [Addr.add_lit]
    cases j with
    | zero => simp at hj; subst hj; exact h1
    | succ j =>
      simp at hj
      have := h4 j v hj
      rw [Addr.add_lit] at this
      rw [show o + (j + 1) = o + 1 + j from by omega]; exact this

theorem run_loadVar_of {t : TypeId} {i : TI} (hi : TIok P t i) (hd : i.d.isOther = false) {b o : Nat} {vs : List Value}
    (hv : ∀ j v, vs[j]? = some v → w.cell? ((⟨b, o, none⟩ : Addr).add j) = some v) (hl : vs.length = i.size) :
    (i.agg = true → (loadVar t ⟨b, o, none⟩).run P w = .ok (.agg vs.toArray) w) ∧
    (i.agg = false → ∀ v, vs = [v] → (loadVar t ⟨b, o, none⟩).run P w = .ok v w) := by
  constructor
  · intro ha
    have hc := run_loadCells_list (P := P) w ⟨b, o, none⟩ vs hv
    simp [loadVar, run_isAgg hi hd, ha, run_size hi hd, ← hl, hc]
  · intro ha v hvs
    subst hvs
    have := hv 0 v (by simp)
    rw [Addr.add_lit] at this
    simp only [Nat.add_zero] at this
    simp [loadVar, run_isAgg hi hd, ha, this]
end read
end Go.AM

namespace Go.AM
open Go

theorem ifLe_elim {a b : Nat} {X : Prop} (h : ifLe a b X) : a ≤ b ∧ X := by
  unfold ifLe at h
  cases e : Nat.ble a b <;> rw [e] at h
  · exact h.elim
  · exact ⟨Nat.le_of_ble_eq_true e, h⟩

theorem Value.cells_one {v : Value} (h : v.oneCell' = true) : v.cells = #[v] := by cases v <;> simp_all [Value.oneCell', Value.cells]

section
variable {g : Gh} {P : Program}

theorem partP_elim {i : TI} {v : AV} {K : List AV → Prop} (h : partP i v K) :
    ∃ cs, K cs ∧ (i.agg = true ∧ v = .agg cs ∧ cs.length = i.size ∨ i.agg = false ∧ cs = [v] ∧ v.one = true) := by
  unfold partP at h
  cases ha : i.agg <;> rw [ha] at h <;> simp only at h
  · obtain ⟨h1, h2⟩ := oneP_elim h; exact ⟨_, h2, .inr ⟨rfl, rfl, h1⟩⟩
  · cases v <;> simp only at h <;> first | exact h.elim | (obtain ⟨h1, h2⟩ := ifN_elim h; exact ⟨_, h2, .inl ⟨rfl, rfl, h1⟩⟩)

theorem part_cells {i : TI} {v : AV} {cs : List AV} (h : i.agg = true ∧ v = .agg cs ∧ cs.length = i.size ∨ i.agg = false ∧ cs = [v] ∧ v.one = true) {x : Value} (hv : VR g v x) :
    VRs g cs x.cells.toList := by
  rcases h with ⟨_, rfl, _⟩ | ⟨_, rfl, h1⟩
  · cases hv with | agg cs vs h => exact h
  · rw [Value.cells_one (hv.one h1)]; exact .cons hv .nil

theorem part_len {i : TI} {t : TypeId} (hi : TIok P t i) (hd : i.d.isOther = false) {v : AV} {cs : List AV} (h : i.agg = true ∧ v = .agg cs ∧ cs.length = i.size ∨ i.agg = false ∧ cs = [v] ∧ v.one = true) :
    cs.length = i.size := by
  rcases h with ⟨_, _, h⟩ | ⟨ha, rfl, _⟩
  · exact h
  · rw [hi.one ha hd]; rfl

theorem all_one {xs : List AV} (h : xs.all AV.one = true) {vs : List Value} (hv : VRs g xs vs) : ∀ v ∈ vs, v.oneCell' = true := by
  intro v hm
  obtain ⟨i, hi⟩ := List.mem_iff_getElem?.1 hm
  obtain ⟨a, ha, hr⟩ := hv.get' hi
  exact hr.one (List.all_eq_true.1 h a (List.mem_of_getElem? ha))
end

section
variable {h0 h : H} {w0 w : World} {g0 g : Gh} {l : List Nat} {loc : List Box} {P : Program}

theorem VRs.splice {as xs : List AV} {vs ys : List Value} (h1 : VRs g as vs) (h2 : VRs g xs ys) (o : Nat) :
    VRs g (as.take o ++ xs ++ as.drop (o + xs.length)) (vs.take o ++ ys ++ vs.drop (o + ys.length)) := by
  rw [h2.length]
  exact ((h1.take o).append h2).append (h1.drop _)

/-- Cells are stored through a pointer. -/
theorem stM_sound (s : SI h0 w0 g0 g h l loc w) {p : AV} {pv : Value} (hp : VR g p pv) {xs : List AV} {vs : List Value} (hx : VRs g xs vs) {K : H → Prop} (hk : stM h p xs K) :
    ∃ a h' w', pv = .pointer (some a) ∧ K h' ∧ SI h0 w0 g0 g h' l loc w' ∧ (storeCells a vs).run P w = .ok () w' := by
  unfold stM at hk
  cases ho : xs.all AV.one <;> rw [ho] at hk <;> simp only at hk
  cases hp <;> simp only at hk
  rename_i b o
  cases hb : h.m b with
  | none => rw [hb] at hk; exact hk.elim
  | some ob =>
    rw [hb] at hk
    cases ob with
    | cells e cs =>
      simp only at hk
      cases hl : Nat.ble (o + xs.length) cs.length <;> rw [hl] at hk <;> simp only at hk
      have hl := Nat.le_of_ble_eq_true hl
      obtain ⟨us, h1, h2⟩ := s.rel.cells hb
      have hus : us.size = cs.length := by have := h2.length; simpa using this.symm
      have hlen : xs.length = vs.length := hx.length
      have hst := run_storeCells_at P b o e vs 0 us w h1 (by simp; omega) (all_one ho hx)
      simp only [Nat.add_zero] at hst
      refine ⟨_, _, _, rfl, hk, ?_, hst⟩
      refine s.setm hb (x := .cells (us.toList.take o ++ vs ++ us.toList.drop (o + vs.length)).toArray e (0, 0)) ⟨rfl, ?_, rfl⟩ (setRow_heap w b us _ e (0, 0) h1) (fun k hk => setRow_other w b k _ hk) (by simp) rfl rfl rfl
      simpa using h2.splice hx o
    | map _ _ => exact hk.elim
    | iter _ _ _ _ => exact hk.elim

/-- .. and into a box of the call's own. -/
theorem stL_sound (s : SI h0 w0 g0 g h l loc w) {i off b : Nat} {e : TypeId} {cs : List AV} (hi : l[i]? = some b) (hl : loc[i]? = some (e, cs)) {xs : List AV} {vs : List Value} (hx : VRs g xs vs)
    (ho : xs.all AV.one = true) (hb : Nat.ble (off + xs.length) cs.length = true) :
    ∃ w', SI h0 w0 g0 g h l (loc.set i (e, splice cs off xs)) w' ∧ (storeCells ⟨b, off, none⟩ vs).run P w = .ok () w' := by
  have hb := Nat.le_of_ble_eq_true hb
  obtain ⟨us, h1, h2⟩ := s.inv.rel.cells (H.withL_mem l loc s.nd hi hl)
  have hus : us.size = cs.length := by have := h2.length; simpa using this.symm
  have hlen : xs.length = vs.length := hx.length
  have hst := run_storeCells_at P b off e vs 0 us w h1 (by simp; omega) (all_one ho hx)
  simp only [Nat.add_zero] at hst
  refine ⟨_, ?_, hst⟩
  exact s.setL hi hl (vs := (us.toList.take off ++ vs ++ us.toList.drop (off + vs.length)).toArray) (by simpa [Go.AM.splice] using h2.splice hx off) (setRow_heap w b us _ e (0, 0) h1) (fun k hk => setRow_other w b k _ hk) (by simp) rfl rfl rfl

/-- A part of a struct, laid into its cells. -/
theorem fold_set : ∀ (vs : List Value) (off k : Nat) (cells : Array Value), off + k + vs.length ≤ cells.size →
    ((vs.zipIdx k).foldl (fun cs (x : Value × Nat) => cs.setIfInBounds (off + x.2) x.1) cells).toList = cells.toList.take (off + k) ++ vs ++ cells.toList.drop (off + k + vs.length)
  | [], off, k, cells, _ => by simp
  | v :: vs, off, k, cells, hl => by
    simp only [List.zipIdx_cons, List.foldl_cons]
    rw [fold_set vs off (k + 1) (cells.setIfInBounds (off + k) v) (by simp at hl ⊢; omega)]
    have e := list_seg_step cells.toList (off + k) v vs (by simp at hl ⊢; omega)
    simp only [Array.toList_setIfInBounds]
    rw [show off + (k + 1) = off + k + 1 from by omega, show (v :: vs).length = vs.length + 1 from rfl]
    rw [show off + k + (vs.length + 1) = off + k + 1 + vs.length from by omega] at e ⊢
    exact e

/-- The parts of a struct or an array. -/
inductive Parts (g : Gh) (place : Nat → Option (Nat × Nat)) : List (Nat × Value) → List (Nat × List AV) → Prop
  | nil : Parts g place [] []
  | cons {i : Nat} {v : Value} {off : Nat} {cs : List AV} {r : List (Nat × Value)} {q : List (Nat × List AV)} : place i = some (off, cs.length) → VRs g cs v.cells.toList → Parts g place r q → Parts g place ((i, v) :: r) ((off, cs) :: q)

theorem fill_sound {place : Nat → Option (Nat × Nat)} : ∀ {ps : List (Nat × Value)} {q : List (Nat × List AV)}, Parts g place ps q → ∀ {zero : List AV} {cells : Array Value} {K : List AV → Prop}, VRs g zero cells.toList → fillA zero q K →
    ∃ as out, Instr.fill place cells ps = some out ∧ VRs g as out.toList ∧ K as
  | _, _, .nil, zero, cells, K, hz, hk => ⟨zero, cells, rfl, hz, hk⟩
  | _, _, .cons (i := i) (v := v) (off := off) (cs := cs) (r := r) (q := q) hp hv hr, zero, cells, K, hz, hk => by
    simp only [fillA] at hk
    cases hl : Nat.ble (off + cs.length) zero.length <;> rw [hl] at hk <;> simp only at hk
    have hl := Nat.le_of_ble_eq_true hl
    have hzl : zero.length = cells.size := by simpa using hz.length
    have hvl : cs.length = v.cells.size := by simpa using hv.length
    have hf := fold_set v.cells.toList off 0 cells (by simp; omega)
    have hnew : VRs g (splice zero off cs) (v.cells.zipIdx.foldl (fun cs (x : Value × Nat) => cs.setIfInBounds (off + x.2) x.1) cells).toList := by
      have e : v.cells.zipIdx.foldl (fun cs (x : Value × Nat) => cs.setIfInBounds (off + x.2) x.1) cells = (v.cells.toList.zipIdx 0).foldl (fun cs (x : Value × Nat) => cs.setIfInBounds (off + x.2) x.1) cells := by
        rw [← Array.foldl_toList]; simp
      rw [e, hf]
      exact hz.splice hv off
    obtain ⟨as, out, h1, h2, h3⟩ := fill_sound hr hnew hk
    refine ⟨as, out, ?_, h2, h3⟩
    simp only [Instr.fill, hp]
    rw [if_neg (by simp; omega)]
    exact h1
end
end Go.AM

namespace Go.AM
open Go

theorem flat_len {sz : Nat} : ∀ {ys : List AV}, (∀ y ∈ ys, y.cells.length = sz) → (ys.flatMap AV.cells).length = ys.length * sz
  | [], _ => by simp
  | y :: ys, h => by
    have ih := flat_len (ys := ys) (fun z hz => h z (by simp [hz]))
    have hy := h y (by simp)
    rw [List.flatMap_cons, List.length_append, hy, ih, List.length_cons, Nat.add_mul]
    omega

theorem ofStr_flat : ∀ (s : List UInt8), (ofStr s).flatMap AV.cells = ofStr s
  | [] => rfl
  | c :: s => by
    have ih := ofStr_flat s
    unfold ofStr at ih ⊢
    rw [List.map_cons, List.flatMap_cons, ih]
    rfl

theorem ofStr_vr {g : Gh} : ∀ (s : List UInt8), VRs g (ofStr s) (s.map fun c => .int .u8 c.toNat)
  | [] => .nil
  | _ :: s => .cons (.int _ _) (ofStr_vr s)

theorem elemsOf_flat (agg : Bool) (sz : Nat) (ha : agg = false → sz = 1) : ∀ (n : Nat) (cs : List AV), cs.length = n * sz → (∀ c ∈ cs, c.one = true) →
    (elemsOf agg sz n cs).flatMap AV.cells = cs ∧ (elemsOf agg sz n cs).length = n ∧ ∀ y ∈ elemsOf agg sz n cs, y.cells.length = sz
  | 0, cs, hl, _ => by
    have : cs = [] := List.eq_nil_of_length_eq_zero (by simpa using hl)
    subst this; simp [elemsOf]
  | n + 1, cs, hl, h1 => by
    have hl' : (cs.drop sz).length = n * sz := by simp [hl, Nat.add_mul]
    obtain ⟨e1, e2, e3⟩ := elemsOf_flat agg sz ha n (cs.drop sz) hl' fun c hc => h1 c (List.mem_of_mem_drop hc)
    have hsz : sz ≤ cs.length := by rw [hl, Nat.add_mul]; omega
    cases agg with
    | true =>
      refine ⟨?_, by simp [elemsOf, e2], ?_⟩
      · simp [elemsOf, AV.cells, e1]
      · intro y hy
        simp only [elemsOf, List.mem_cons] at hy
        rcases hy with rfl | hy
        · simp only [AV.cells, List.length_take]; omega
        · exact e3 y hy
    | false =>
      obtain rfl := ha rfl
      match cs, hl with
      | c :: cs, hl =>
        have hc : c.one = true := h1 c (by simp)
        have hcc : c.cells = [c] := by cases c <;> simp_all [AV.one, AV.cells]
        simp only [List.drop_one, List.tail_cons] at e1 e2 e3
        refine ⟨?_, by simp [elemsOf, e2], ?_⟩
        · simp only [elemsOf, List.flatMap_cons, List.headD_cons, hcc, List.drop_one, List.tail_cons]
          rw [e1]; rfl
        · intro y hy
          simp only [elemsOf, List.mem_cons] at hy
          rcases hy with rfl | hy
          · simp [hcc]
          · exact e3 y hy

/-- What a slice, or a string, holds. -/
structure Src (P : Program) (g : Gh) (w : World) (size : Nat) (x : Value) (ys : List AV) (vs : List Value) : Prop where
  vr : VRs g (ys.flatMap AV.cells) vs
  len : vs.length = ys.length * size
  each : ∀ y ∈ ys, y.cells.length = size
  lenOf : ∀ w' : World, (Builtin.lenOf x).run P w' = .ok ys.length w'
  first : ∀ n, n ≤ ys.length → ∀ w' : World, w'.heap = w.heap → (Builtin.firstCells size n x).run P w' = .ok (vs.take (n * size)).toArray w'

theorem cell?_heap {w w' : World} (h : w'.heap = w.heap) (a : Addr) : w'.cell? a = w.cell? a := by simp [World.cell?, h]

section
variable {g : Gh} {h : H} {w : World} {P : Program}

theorem src_slice {size : Nat} {b o cap : Nat} {ys : List AV} {vs : List Value} (hv : VRs g (ys.flatMap AV.cells) vs) (he : ∀ y ∈ ys, y.cells.length = size)
    (hc : ∀ (j : Nat) (v : Value), vs[j]? = some v → w.cell? ⟨b, o + j, none⟩ = some v) : Src P g w size (.slice (some ⟨b, o, none⟩) ys.length cap) ys vs where
  vr := hv
  len := by rw [← hv.length]; exact flat_len he
  each := he
  lenOf := fun w' => rfl
  first := fun n hn w' hw => by
    have hl : vs.length = ys.length * size := by rw [← hv.length]; exact flat_len he
    refine run_firstCells_some (P := P) w' size n ⟨b, o, none⟩ ys.length cap (vs.take (n * size)) ?_ ?_
    · rw [List.length_take, hl]; exact Nat.min_eq_left (Nat.mul_le_mul_right _ hn)
    · intro j v hj
      rw [Addr.add_lit, cell?_heap hw]
      refine hc j v ?_
      rw [List.getElem?_take] at hj
      split at hj
      · exact hj
      · cases hj

theorem rdP_elim (r : Rel g h w) {t : TypeId} {i : TI} (hi : TIok P t i) (hd : i.d.isOther = false) {a : AV} {x : Value} (hx : VR g a x) {K : List AV → Prop} (hk : rdP i h a K) :
    ∃ ys vs, K ys ∧ Src P g w i.size x ys vs := by
  cases hx <;> simp only [rdP] at hk <;> first
    | exact hk.elim
    | skip
  · rename_i s
    obtain ⟨h1, hk⟩ := ifN_elim hk
    refine ⟨_, s.map fun c => .int .u8 c.toNat, hk, ?_, ?_, ?_, ?_, ?_⟩
    · rw [ofStr_flat]; exact ofStr_vr s
    · simp [ofStr, h1]
    · intro y hy; simp [ofStr] at hy; obtain ⟨c, _, rfl⟩ := hy; rw [h1]; rfl
    · intro w'; simp [Builtin.lenOf, ofStr, ByteArray.size]
    · intro n hn w' _
      rw [h1]
      simp only [Builtin.firstCells, Sem.run_pure, Nat.mul_one]
      congr 1
      apply Array.ext'
      simp [ByteArray.data_extract]
  · rename_i t' sz _
    obtain ⟨h1, hk⟩ := ifN_elim hk
    refine ⟨[], [], hk, .nil, by simp, by simp, fun w' => rfl, fun n hn w' _ => ?_⟩
    simp [run_firstCells_none]
  · rename_i t' sz xs vs b o cap hs hsz hh ht hc
    obtain ⟨h1, hk'⟩ := ifN_elim hk
    subst h1
    exact ⟨xs, vs, hk', src_slice hs hsz fun j v hj => cell_im r hh hj⟩
  · rename_i b off len cap
    cases hb : h.m b with
    | none => rw [hb] at hk; exact hk.elim
    | some ob =>
      rw [hb] at hk
      cases ob with
      | cells e cs =>
        obtain ⟨hl, h1, hk⟩ := takeP_elim hk
        have hlen : ((cs.drop off).take (len * i.size)).length = len * i.size := by simp; omega
        obtain ⟨e1, e2, e3⟩ := elemsOf_flat i.agg i.size (fun ha => hi.one ha hd) len _ hlen h1
        obtain ⟨us, hu, hr⟩ := r.cells hb
        refine ⟨_, (us.toList.drop off).take (len * i.size), hk, ?_⟩
        have := src_slice (P := P) (g := g) (w := w) (b := b) (o := off) (cap := cap) (size := i.size) (ys := elemsOf i.agg i.size len ((cs.drop off).take (len * i.size)))
          (vs := (us.toList.drop off).take (len * i.size)) (by rw [e1]; exact (hr.drop off).take _) e3 (fun j v hj => by
            obtain ⟨h5, h6⟩ := getElem?_take_drop hj
            rw [cell_of hu]; simpa using h6)
        rw [e2] at this
        exact this
      | map _ _ => exact hk.elim
      | iter _ _ _ _ => exact hk.elim
end

section
variable {P : Program} (w : World)

/-- A slice that has no room, or none at all: a new array. -/
theorem run_append_new (t t2 ty e : TypeId) (x : TypeInfo) (z : Value) (ht : P.underlying t = some (.slice e)) (ht2 : (∃ e2, P.underlying t2 = some (.slice e2)) ∨ P.underlying t2 = some .string)
    (hx : P.info? e = some x) (hz : x.zero = some z) (base : Option Addr) (sLen sCap n : Nat) (v : Value) (olds news : Array Value)
    (hlen : (Builtin.lenOf v).run P w = .ok n w) (hold : (Builtin.firstCells x.size sLen (.slice base sLen sCap)).run P w.drew = .ok olds w.drew) (hnew : (Builtin.firstCells x.size n v).run P w.drew = .ok news w.drew)
    (hg : sCap < sLen + n) (hb : 0 < x.bytes) (hfit : (sLen + n) * x.bytes ≤ 140737488355328) :
    (Builtin.append_ #[t, t2] ty #[.slice base sLen sCap, v]).run P w =
      .ok (.slice (some ⟨w.heap.size, 0, none⟩) (sLen + n) (grownCap w (sLen + n) sCap e)) (w.drew.alloc (.cells (olds ++ news ++ Builtin.zeroCells z.cells (grownCap w (sLen + n) sCap e - (sLen + n))) e)) := by
  have h1 : ¬ (sLen + n ≤ sCap) := by omega
  have hb0 : x.bytes ≠ 0 := by omega
  have hle : sLen + n ≤ 140737488355328 := Nat.le_trans (Nat.le_mul_of_pos_right _ hb) hfit
  have h63 : ¬ (9223372036854775807 < ((sLen : Int) + (n : Int))) := by omega
  have hc := growslice_fits hg hfit
  have h48 : ¬ (281474976710656 < Builtin.nextslicecap (sLen + n) sCap * x.bytes) := by omega
  rcases ht2 with ⟨e2, ht2⟩ | ht2
  all_goals
    simp [Builtin.append_, run_underlying ht, run_underlying ht2, sizeOf, typeInfo, zeroValue, hx, hz, hlen, h1, h48, hb0, Question.forced, hold, hnew, newRow, grownCap]

/-- A slice that has room. -/
theorem run_append_in (t t2 ty e : TypeId) (x : TypeInfo) (ht : P.underlying t = some (.slice e)) (ht2 : (∃ e2, P.underlying t2 = some (.slice e2)) ∨ P.underlying t2 = some .string)
    (hx : P.info? e = some x) (a : Addr) (sLen sCap n : Nat) (v : Value) (news : Array Value) (w' : World)
    (hlen : (Builtin.lenOf v).run P w = .ok n w) (hnew : (Builtin.firstCells x.size n v).run P w = .ok news w) (hst : (storeCells (a.add (sLen * x.size)) news.toList).run P w = .ok () w')
    (hg : sLen + n ≤ sCap) :
    (Builtin.append_ #[t, t2] ty #[.slice (some a) sLen sCap, v]).run P w = .ok (.slice (some a) (sLen + n) sCap) w' := by
  rcases ht2 with ⟨e2, ht2⟩ | ht2
  all_goals
    simp [Builtin.append_, run_underlying ht, run_underlying ht2, sizeOf, typeInfo, hx, hlen, hg, hnew, hst]

theorem run_append_in_nil (t t2 ty e : TypeId) (x : TypeInfo) (ht : P.underlying t = some (.slice e)) (ht2 : (∃ e2, P.underlying t2 = some (.slice e2)) ∨ P.underlying t2 = some .string)
    (hx : P.info? e = some x) (v : Value) (hlen : (Builtin.lenOf v).run P w = .ok 0 w) (hnew : (Builtin.firstCells x.size 0 v).run P w = .ok #[] w) :
    (Builtin.append_ #[t, t2] ty #[.slice none 0 0, v]).run P w = .ok (.slice none 0 0) w := by
  rcases ht2 with ⟨e2, ht2⟩ | ht2
  all_goals
    simp [Builtin.append_, run_underlying ht, run_underlying ht2, sizeOf, typeInfo, hx, hlen, hnew]
end

section
variable {h0 h : H} {w0 w : World} {g0 g : Gh} {l : List Nat} {loc : List Box} {P : Program}

theorem SI.weaken (s : SI h0 w0 g0 g h l loc w) {h' : H} (hle : h'.le h) : SI h0 w0 g0 g h' l loc w := by
  refine ⟨s.inv.weaken ⟨fun b o hb => ?_, fun b e hb => ?_⟩, s.len, s.nd, fun b hb => ?_⟩
  · by_cases hm : b ∈ l
    · obtain ⟨i, hi⟩ := List.mem_iff_getElem?.1 hm
      have hlt : i < loc.length := by rw [← s.len]; exact (List.getElem?_eq_some_iff.1 hi).1
      have h1 := H.withL_mem (h := h') l loc s.nd hi (List.getElem?_eq_getElem hlt)
      have h2 := H.withL_mem (h := h) l loc s.nd hi (List.getElem?_eq_getElem hlt)
      rw [h1] at hb; rw [h2]; exact hb
    · rw [H.withL_not l loc hm] at hb ⊢; exact hle.1 b o hb
  · rw [H.withL_t] at hb ⊢; exact hle.2 b e hb
  · obtain ⟨h1, h2⟩ := s.fr b hb
    refine ⟨?_, ?_⟩
    · cases hx : h'.m b with
      | none => rfl
      | some o => have := hle.1 b o hx; rw [h1] at this; cases this
    · cases hx : h'.t b with
      | none => rfl
      | some o => have := hle.2 b o hx; rw [h2] at this; cases this

/-- A new block whose first n cells stay as they are. -/
theorem SI.lay (s : SI h0 w0 g0 g h l loc w) (vs : Array Value) (e : TypeId) (n k : Nat) (hk : k ≤ vs.size) :
    SI h0 w0 g0 (g.lay w.heap.size n k vs) (h.tput w.heap.size n) l loc (w.alloc (.cells vs e)) ∧ g.le (g.lay w.heap.size n k vs) ∧
    (∀ ws : List Value, (∀ (j : Nat) (v : Value), ws[j]? = some v → j < n ∧ vs[j]? = some v) → (g.lay w.heap.size n k vs).has w.heap.size 0 ws) := by
  obtain ⟨h1, h2, h3⟩ := s.inv.lay vs e n k hk
  refine ⟨⟨?_, s.len, s.nd, fun b hb => ⟨(s.fr b hb).1, ?_⟩⟩, h2, fun ws hws => h3 _ 0 rfl rfl ws hws⟩
  · rw [H.withL_tput]; exact h1
  · have := Nat.ne_of_lt (s.lt hb)
    simp [H.tput, this, (s.fr b hb).2]

theorem SI.grow (s : SI h0 w0 g0 g h l loc w) {b e k : Nat} (ht : h.t b = some e) (hlim : g.lim b = some k) (ws : List Value) (hfit : e + ws.length ≤ k) :
    ∃ vs T, w.heap[b]? = some (.cells vs T (0, 0)) ∧ k ≤ vs.size ∧
    SI h0 w0 g0 (g.grow b e ws) (h.tput b (e + ws.length)) l loc (w.setRow b (vs.toList.take e ++ ws ++ vs.toList.drop (e + ws.length)).toArray) ∧
    g.le (g.grow b e ws) ∧ (g.grow b e ws).has b e ws := by
  obtain ⟨vs, T, h1, h2, h3, h4, h5⟩ := s.inv.grow (b := b) (e := e) (l := k) (by rw [H.withL_t]; exact ht) hlim ws hfit
  refine ⟨vs, T, h1, h2, ⟨?_, s.len, s.nd, fun c hc => ⟨(s.fr c hc).1, ?_⟩⟩, h4, h5⟩
  · rw [H.withL_tput]; exact h3
  · have : c ≠ b := by rintro rfl; have := (s.fr c hc).2; rw [ht] at this; cases this
    simp [H.tput, this, (s.fr c hc).2]

theorem Rel.lim_of_t (r : Rel g h w) {b e : Nat} (ht : h.t b = some e) : ∃ k, g.lim b = some k := by
  obtain ⟨⟨k, _, _, h1, _⟩, _⟩ := r.tt b e ht
  exact ⟨k, h1⟩

theorem Rel.m_of_t (r : Rel g h w) {b e : Nat} (ht : h.t b = some e) : h.m b = none := by
  cases hx : h.m b with
  | none => rfl
  | some o => have := (r.mm b o hx).2.2; rw [ht] at this; cases this

theorem has_append {b o : Nat} {as bs : List Value} (h1 : g.has b o as) (h2 : g.has b (o + as.length) bs) : g.has b o (as ++ bs) := by
  intro j v hj
  rcases Nat.lt_or_ge j as.length with hl | hl
  · rw [List.getElem?_append_left hl] at hj; exact h1 j v hj
  · rw [List.getElem?_append_right hl] at hj
    have := h2 _ _ hj
    rw [show o + as.length + (j - as.length) = o + j from by omega] at this
    exact this

theorem Gh.has_mono {g' : Gh} (hle : g.le g') {b o : Nat} {vs : List Value} (h : g.has b o vs) : g'.has b o vs := fun i v hv => hle.im _ _ _ (h i v hv)

/-- The array that an append lays: what was there, what came, and room. -/
theorem append_new_sound (s : SI h0 w0 g0 g h l loc w) {e : TypeId} {sz : Nat} {xs ys : List AV} {vs us : List Value} (hxs : ∀ x ∈ xs, x.cells.length = sz) (hys : ∀ y ∈ ys, y.cells.length = sz)
    (hvs : VRs g (xs.flatMap AV.cells) vs) (hus : VRs g (ys.flatMap AV.cells) us) (cap : Nat) (hcap : xs.length + ys.length ≤ cap) (rest : Array Value) (hrest : rest.size = (cap - (xs.length + ys.length)) * sz) :
    ∃ g' n', g.le g' ∧ SI h0 w0 g0 g' (h.tput w.heap.size n') l loc (w.drew.alloc (.cells (vs.toArray ++ us.toArray ++ rest) e)) ∧
      VR g' (.lst (.own w.heap.size n') sz (xs ++ ys)) (.slice (some ⟨w.heap.size, 0, none⟩) (xs.length + ys.length) cap) := by
  have hlv : vs.length = xs.length * sz := by rw [← hvs.length]; exact flat_len hxs
  have hlu : us.length = ys.length * sz := by rw [← hus.length]; exact flat_len hys
  have htot : (vs.toArray ++ us.toArray ++ rest).size = cap * sz := by
    simp only [Array.size_append, List.size_toArray, hlv, hlu, hrest, ← Nat.add_mul]
    congr 1; omega
  obtain ⟨h1, h2, h3⟩ := s.drew.lay (vs.toArray ++ us.toArray ++ rest) e ((xs.length + ys.length) * sz) (cap * sz) (by rw [htot]; exact Nat.le_refl _)
  refine ⟨_, (xs.length + ys.length) * sz, h2, h1, ?_⟩
  have hall : ∀ x ∈ xs ++ ys, x.cells.length = sz := by
    intro x hx; rcases List.mem_append.1 hx with hx | hx
    · exact hxs x hx
    · exact hys x hx
  have := VR.lst (g := g.lay w.heap.size ((xs.length + ys.length) * sz) (cap * sz) (vs.toArray ++ us.toArray ++ rest)) (.own w.heap.size ((xs.length + ys.length) * sz)) sz (xs ++ ys) (vs ++ us) w.heap.size 0 cap
    (by rw [List.flatMap_append]; exact (hvs.append hus).mono h2) hall
    (h3 (vs ++ us) fun j v hj => by
      have hlt : j < (vs ++ us).length := (List.getElem?_eq_some_iff.1 hj).1
      refine ⟨by rw [List.length_append, hlv, hlu] at hlt; rw [Nat.add_mul]; exact hlt, ?_⟩
      rw [Array.getElem?_append_left (by simpa using hlt)]
      simpa using hj)
    ⟨rfl, by simp, by simp [Gh.lay]⟩ (by simpa using hcap)
  simpa using this

theorem append_sound (s : SI h0 w0 g0 g h l loc w) {t t2 ty e : TypeId} {i : TI} (ht : P.underlying t = some (.slice e)) (ht2 : (∃ e2, P.underlying t2 = some (.slice e2)) ∨ P.underlying t2 = some .string)
    (hi : TIok P e i) (hz : i.zero.isJunk = false) {sv : AV} {v x : Value} (hv : VR g sv v) {ys : List AV} {us : List Value} (src : Src P g w i.size x ys us) {K : AV → H → Prop} (hk : apP i h sv ys K) :
    ∃ v' w' g' h' av, (Builtin.append_ #[t, t2] ty #[v, x]).run P w = .ok v' w' ∧ K av h' ∧ SI h0 w0 g0 g' h' l loc w' ∧ g.le g' ∧ VR g' av v' := by
  obtain ⟨info, z, hinfo, hsize, hzero, hzc, _⟩ := hi.zero hz
  have hbytes : info.bytes = i.bytes := hi.bytes _ hinfo hz
  cases hv <;> simp only [apP] at hk <;> first
    | exact hk.elim
    | skip
  · -- a nil slice
    rename_i tg sz htg
    obtain ⟨rfl, hb0, hel, hbd, hk⟩ := hk
    cases tg with
    | any => exact hk.elim
    | own b e => exact htg.elim
    | full =>
      by_cases hn : ys.length = 0
      · obtain rfl := List.eq_nil_of_length_eq_zero hn
        have hr := run_append_in_nil (P := P) w t t2 ty e info ht ht2 hinfo x (src.lenOf w) (by have := src.first 0 (Nat.le_refl _) w rfl; simpa [hsize] using this)
        exact ⟨_, _, g, _, _, hr, hk .full trivial, s, .refl g, .lstn .full _ trivial⟩
      · have hr := run_append_new (P := P) w t t2 ty e info z ht ht2 hinfo hzero none 0 0 ys.length x #[] us.toArray (src.lenOf w)
          (by simp [run_firstCells_none]) (by have := src.first ys.length (Nat.le_refl _) w.drew rfl; rw [← src.len, List.take_length] at this; rw [hsize]; exact this)
          (by omega) (by rw [hbytes]; exact hb0) (by rw [hbytes]; simpa using hbd)
        have hcap := grownCap_ge w (0 + ys.length) 0 e
        obtain ⟨g', n', h1, h2, h3⟩ := append_new_sound s (e := e) (sz := i.size) (xs := []) (ys := ys) (vs := []) (us := us) (by simp) src.each .nil src.vr (grownCap w (0 + ys.length) 0 e) (by simpa using hcap)
          (Builtin.zeroCells z.cells (grownCap w (0 + ys.length) 0 e - (0 + ys.length))) (by simp [size_zeroCells, hzc])
        refine ⟨_, _, g', _, _, hr, hk (.own w.heap.size n') ?_, h2, h1, h3⟩
        exact s.rel.free_new
  · rename_i tg sz xs vs b o cap hvs hsz hh htok hcl
    obtain ⟨rfl, hb0, hel, hbd, hk⟩ := hk
    have hlv : vs.length = xs.length * i.size := by rw [← hvs.length]; exact flat_len hsz
    have srcS := src_slice (P := P) (w := w) (cap := cap) hvs hsz fun j v hj => cell_im s.rel hh hj
    -- a new array
    have hnew : cap < xs.length + ys.length → ∀ (h1 : H), SI h0 w0 g0 g h1 l loc w → (∀ n', K (.lst (.own w.heap.size n') i.size (xs ++ ys)) (h1.tput w.heap.size n')) →
        ∃ v' w' g' h' av, (Builtin.append_ #[t, t2] ty #[.slice (some ⟨b, o, none⟩) xs.length cap, x]).run P w = .ok v' w' ∧ K av h' ∧ SI h0 w0 g0 g' h' l loc w' ∧ g.le g' ∧ VR g' av v' := by
      intro hg h1 s1 hk1
      have hr := run_append_new (P := P) w t t2 ty e info z ht ht2 hinfo hzero (some ⟨b, o, none⟩) xs.length cap ys.length x vs.toArray us.toArray (src.lenOf w)
        (by have := srcS.first xs.length (Nat.le_refl _) w.drew rfl; rw [← hlv, List.take_length] at this; rw [hsize]; exact this)
        (by have := src.first ys.length (Nat.le_refl _) w.drew rfl; rw [← src.len, List.take_length] at this; rw [hsize]; exact this)
        hg (by rw [hbytes]; exact hb0) (by rw [hbytes]; exact hbd)
      have hcap := grownCap_ge w (xs.length + ys.length) cap e
      obtain ⟨g', n', h2, h3, h4⟩ := append_new_sound s1 (e := e) hsz src.each hvs src.vr (grownCap w (xs.length + ys.length) cap e) hcap
        (Builtin.zeroCells z.cells (grownCap w (xs.length + ys.length) cap e - (xs.length + ys.length))) (by simp [size_zeroCells, hzc])
      exact ⟨_, _, g', _, _, hr, hk1 n', h3, h2, h4⟩
    cases tg with
    | any => exact hk.elim
    | full =>
      obtain rfl : cap = xs.length := htok
      by_cases hn : ys.length = 0
      · obtain rfl := List.eq_nil_of_length_eq_zero hn
        have hr := run_append_in (P := P) w t t2 ty e info ht ht2 hinfo ⟨b, o, none⟩ xs.length xs.length 0 x #[] w (src.lenOf w) (by have := src.first 0 (Nat.le_refl _) w rfl; simpa [hsize] using this) rfl (Nat.le_refl _)
        refine ⟨_, _, g, _, _, hr, hk .full trivial, s, .refl g, ?_⟩
        have := VR.lst (g := g) .full i.size xs vs b o xs.length hvs hsz hh rfl (Nat.le_refl _)
        simpa using this
      · exact hnew (by omega) h s fun n' => hk (.own w.heap.size n') s.rel.free_new
    | own b' e' =>
      obtain ⟨hb', he', hlim⟩ := htok
      obtain ⟨hkt, hk⟩ := hk
      subst hb'
      by_cases hg : xs.length + ys.length ≤ cap
      · have hlu : us.length = ys.length * i.size := src.len
        obtain ⟨cells, T, h1, h2, h3, h4, h5⟩ := s.grow hkt hlim us (by rw [he', hlu, Nat.add_assoc, ← Nat.add_mul]; exact Nat.add_le_add_left (Nat.mul_le_mul_right _ hg) _)
        have hone : ∀ v ∈ us, v.oneCell' = true := by
          intro v hv
          obtain ⟨j, hj⟩ := List.mem_iff_getElem?.1 hv
          obtain ⟨a, ha, hr⟩ := src.vr.get' hj
          have hm := List.mem_of_getElem? ha
          obtain ⟨y, hy, hyc⟩ := List.mem_flatMap.1 hm
          exact hr.one ((hel y hy).2 a hyc)
        have hst := run_storeCells_at P b' e' T us 0 cells w h1 (by
          have : e' + us.length ≤ cells.size := by
            refine Nat.le_trans ?_ h2
            rw [he', hlu, Nat.add_assoc, ← Nat.add_mul]; exact Nat.add_le_add_left (Nat.mul_le_mul_right _ hg) _
          simpa using this) hone
        simp only [Nat.add_zero] at hst
        have hr := run_append_in (P := P) w t t2 ty e info ht ht2 hinfo ⟨b', o, none⟩ xs.length cap ys.length x us.toArray _ (src.lenOf w)
          (by have := src.first ys.length (Nat.le_refl _) w rfl; rw [← src.len, List.take_length] at this; rw [hsize]; exact this)
          (by rw [Addr.add_lit, hsize, ← he']; exact hst) hg
        refine ⟨_, _, g.grow b' e' us, (h.tdel b').with (.own b' (e' + us.length)), _, hr, hk (.own b' (e' + us.length)) ?_, h3.weaken ?_, h4, ?_⟩
        · exact ⟨s.rel.m_of_t hkt, by simp [H.tdel]⟩
        · refine ⟨fun k ob hb => hb, fun k x hb => ?_⟩
          by_cases ek : k = b'
          · subst ek; simpa [H.with, H.tput, H.tdel] using hb
          · simp [H.with, H.tput, H.tdel, ek] at hb ⊢; exact hb
        · have hall : ∀ x ∈ xs ++ ys, x.cells.length = i.size := by
            intro x hx; rcases List.mem_append.1 hx with hx | hx
            · exact hsz x hx
            · exact src.each x hx
          have := VR.lst (g := g.grow b' e' us) (.own b' (e' + us.length)) i.size (xs ++ ys) (vs ++ us) b' o cap
            (by rw [List.flatMap_append]; exact (hvs.append src.vr).mono h4) hall
            (has_append (Gh.has_mono h4 hh) (by rw [hlv, ← he']; exact h5))
            ⟨rfl, by rw [he', hlu, List.length_append, Nat.add_mul]; omega, by simpa [Gh.grow] using hlim⟩ (by simpa using hg)
          simpa using this
      · have hle : (h.tdel b').le h := ⟨fun _ _ hb => hb, fun k x hb => by
          by_cases ek : k = b'
          · subst ek; simp [H.tdel] at hb
          · simpa [H.tdel, ek] using hb⟩
        refine hnew (by omega) (h.tdel b') (s.weaken hle) fun n' => hk (.own w.heap.size n') ?_
        refine ⟨s.rel.free_new.1, ?_⟩
        have := s.rel.free_new.2
        simp only [H.tdel]; split <;> first | rfl | exact this
end
end Go.AM
