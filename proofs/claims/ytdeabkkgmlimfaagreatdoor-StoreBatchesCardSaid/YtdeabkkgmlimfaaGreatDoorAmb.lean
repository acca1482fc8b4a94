/-
  The operations of the model, one by one.
-/
import Derived.Test.YtdeabkkgmlimfaaGreatDoorAma
import Derived.Laws.BytesArg
import Derived.Laws.IdiomStrings
import Derived.Laws.MakeOwn

set_option linter.unusedVariables false
set_option linter.unusedSimpArgs false

namespace Go.AM
open Go

/-- The boxes are still there, of their types and sizes. -/
def Sig (loc loc' : List Box) : Prop := ∀ (i : Nat) (b : Box), loc[i]? = some b → ∃ b', loc'[i]? = some b' ∧ b'.1 = b.1 ∧ b'.2.length = b.2.length
theorem Sig.refl (loc : List Box) : Sig loc loc := fun _ b h => ⟨b, h, rfl, rfl⟩
theorem Sig.trans {a b c : List Box} (h : Sig a b) (h' : Sig b c) : Sig a c := fun i x hx => by
  obtain ⟨y, h1, h2, h3⟩ := h i x hx
  obtain ⟨z, h4, h5, h6⟩ := h' i y h1
  exact ⟨z, h4, h5.trans h2, h6.trans h3⟩
theorem Sig.append (a b : List Box) : Sig a (a ++ b) := fun i x hx => ⟨x, by rw [List.getElem?_append_left (List.getElem?_eq_some_iff.1 hx).1]; exact hx, rfl, rfl⟩
theorem Sig.set {a : List Box} {i : Nat} {e : TypeId} {cs cs' : List AV} (h : a[i]? = some (e, cs)) (hl : cs'.length = cs.length) : Sig a (a.set i (e, cs')) := fun j x hx => by
  by_cases hij : i = j
  · subst hij
    rw [h] at hx; cases hx
    exact ⟨(e, cs'), by rw [List.getElem?_set_self (List.getElem?_eq_some_iff.1 h).1], rfl, hl⟩
  · exact ⟨x, by rw [List.getElem?_set_ne hij]; exact hx, rfl, rfl⟩
theorem splice_len {cs xs : List AV} {o : Nat} (h : o + xs.length ≤ cs.length) : (splice cs o xs).length = cs.length := by
  unfold splice
  simp only [List.length_append, List.length_take, List.length_drop]; omega

/-- What stands behind an operation. -/
def Done (K : Slot → List Box → H → Prop) (h0 : H) (w0 : World) (g0 g : Gh) (l : List Nat) (loc : List Box) (v : Value) (w' : World) : Prop :=
  ∃ g' l' s loc' h', Sig loc loc' ∧ K s loc' h' ∧ SI h0 w0 g0 g' h' l' loc' w' ∧ g.le g' ∧ (∀ (i b : Nat), l[i]? = some b → l'[i]? = some b) ∧ SR g' l' s v

/-- What was there is there. -/
structure Sub (w w' : World) : Prop where
  size : w.heap.size ≤ w'.heap.size
  block : ∀ b, b < w.heap.size → w'.heap[b]? = w.heap[b]?

theorem Sub.refl (w : World) : Sub w w := ⟨Nat.le_refl _, fun _ _ => rfl⟩
theorem Sub.trans {w w' w'' : World} (h : Sub w w') (h' : Sub w' w'') : Sub w w'' :=
  ⟨Nat.le_trans h.size h'.size, fun b hb => (h'.block b (Nat.lt_of_lt_of_le hb h.size)).trans (h.block b hb)⟩
theorem Sub.alloc (w : World) (x : Obj) : Sub w (w.alloc x) := ⟨by simp, fun _ hb => heap_alloc_old w x hb⟩
theorem Sub.drew_alloc (w : World) (x : Obj) : Sub w (w.drew.alloc x) := ⟨(Sub.alloc w.drew x).size, fun _ hb => heap_alloc_old w.drew x hb⟩
theorem Sub.cell {w w' : World} (h : Sub w w') {a : Addr} {v : Value} (hc : w.cell? a = some v) : w'.cell? a = some v := by
  have := World.block_lt_of_cell? w a hc
  simp only [World.cell?] at hc ⊢
  rw [h.block _ this]; exact hc

def Cl (cx : Cx) (o : Oper) (a : Act) (w : World) (v : Value) (w' : World) : Prop :=
  match cls cx o with
  | .pure => ∀ u, (execOp a.eval o).run cx.P u = .ok (.value v) u
  | .load => w' = w ∧ ∀ u, Sub w u → (execOp a.eval o).run cx.P u = .ok (.value v) u
  | .grow => Sub w w'
  | .wild => True

def Step (cx : Cx) (o : Oper) (a : Act) (w : World) (R : Value → World → Prop) : Prop :=
  ∃ v w', ((execOp a.eval o).run cx.P w = .ok (.value v) w' ∨ (v = undef ∧ (execOp a.eval o).run cx.P w = .ok .skip w')) ∧ R v w' ∧ Cl cx o a w v w'

theorem knownP_elim {i : TI} {X : Prop} (h : knownP i X) : i.d.isOther = false ∧ X := by
  unfold knownP at h
  cases e : i.d.isOther <;> rw [e] at h
  · exact ⟨rfl, h⟩
  · exact h.elim
theorem ptrP_elim {v : AV} {X : Prop} (h : ptrP v X) : X ∧ ((∃ b o, v = .ptr (some (b, o))) ∨ (∃ cs o, v = .ept cs o) ∨ ∃ s xs i o, v = .elp s xs i o) := by
  unfold ptrP at h
  split at h
  · rename_i a; obtain ⟨b, o⟩ := a; exact ⟨h, .inl ⟨b, o, rfl⟩⟩
  · exact ⟨h, .inr (.inl ⟨_, _, rfl⟩)⟩
  · exact ⟨h, .inr (.inr ⟨_, _, _, _, rfl⟩)⟩
  · exact h.elim

section
variable {cx : Cx} {o : Oper} {fr : Fr} {h0 h : H} {w0 w : World} {g0 g : Gh} {l : List Nat} {a : Act} {K : Slot → List Box → H → Prop}

theorem Done.pure (s : SI h0 w0 g0 g h l fr.loc w) {x : Slot} {v : Value} (hk : K x fr.loc h) (hs : SR g l x v) : Done K h0 w0 g0 g l fr.loc v w :=
  ⟨g, l, x, fr.loc, h, .refl _, hk, s, .refl g, fun _ _ h => h, hs⟩

theorem Done.grown {g' : Gh} {h' : H} {w' : World} {x : AV} {v : Value} (hk : K (.v x) fr.loc h') (s' : SI h0 w0 g0 g' h' l fr.loc w') (hle : g.le g') (hv : VR g' x v) :
    Done K h0 w0 g0 g l fr.loc v w' := ⟨g', l, .v x, fr.loc, h', .refl _, hk, s', hle, fun _ _ h => h, hv⟩

/-- Steps that reckon a value. -/
theorem Step.pureV {R : Value → World → Prop} {v : Value} (hc : cls cx o = .pure) (he : ∀ u, (execOp a.eval o).run cx.P u = .ok (.value v) u) (hr : R v w) : Step cx o a w R :=
  ⟨v, w, .inl (he w), hr, by unfold Cl; rw [hc]; exact he⟩
theorem Step.loadV {R : Value → World → Prop} {v : Value} (hc : cls cx o = .load) (he : ∀ u, Sub w u → (execOp a.eval o).run cx.P u = .ok (.value v) u) (hr : R v w) : Step cx o a w R :=
  ⟨v, w, .inl (he w (.refl w)), hr, by unfold Cl; rw [hc]; exact ⟨rfl, he⟩⟩
theorem Step.growV {R : Value → World → Prop} {v : Value} {w' : World} (hc : cls cx o = .grow) (he : (execOp a.eval o).run cx.P w = .ok (.value v) w') (hs : Sub w w') (hr : R v w') : Step cx o a w R :=
  ⟨v, w', .inl he, hr, by unfold Cl; rw [hc]; exact hs⟩
theorem Step.wildV {R : Value → World → Prop} {v : Value} {w' : World} (hc : cls cx o = .wild) (he : (execOp a.eval o).run cx.P w = .ok (.value v) w') (hr : R v w') : Step cx o a w R :=
  ⟨v, w', .inl he, hr, by unfold Cl; rw [hc]; trivial⟩

theorem VR.ptr_inv {x : AV} {v : Value} (hv : VR g x v) (hx : (∃ b o, x = .ptr (some (b, o))) ∨ (∃ cs o, x = .ept cs o) ∨ ∃ s xs i o, x = .elp s xs i o) :
    ∃ b o, v = .pointer (some ⟨b, o, none⟩) ∧ ∀ k, VR g (padd x k) (.pointer (some ⟨b, o + k, none⟩)) := by
  rcases hx with ⟨b, o, rfl⟩ | ⟨cs, o, rfl⟩ | ⟨s, xs, i, o, rfl⟩
  · cases hv; exact ⟨b, o, rfl, fun k => .ptr b (o + k)⟩
  · cases hv with
    | ept _ _ vs b o' h1 h2 => exact ⟨b, o' + o, rfl, fun k => by have := VR.ept (g := g) cs (o + k) vs b o' h1 h2; simpa [padd, Nat.add_assoc] using this⟩
  · cases hv with
    | elp _ _ _ _ vs b o' h1 h2 h3 => exact ⟨b, o' + i * s + o, rfl, fun k => by have := VR.elp (g := g) s xs i (o + k) vs b o' h1 h2 h3; simpa [padd, Nat.add_assoc] using this⟩

theorem H.lp_cells (s : SI h0 w0 g0 g h l fr.loc w) {i b : Nat} {x : Box} (hi : l[i]? = some b) (hx : fr.loc[i]? = some x) :
    ∃ vs, w.heap[b]? = some (.cells vs x.1 (0, 0)) ∧ VRs g x.2 vs.toList := s.inv.rel.cells (H.withL_mem l fr.loc s.nd hi hx)

variable (hty : TyOK cx) (hgl : GlOK cx.gl g) (s : SI h0 w0 g0 g h l fr.loc w) (hf : FRel g l fr a)
include hgl s hf

theorem op_move {x : Operand} (ho : o.op = .move x) (hk : K (fr.ev cx o.type x) fr.loc h) : Step cx o a w (Done K h0 w0 g0 g l fr.loc) :=
  .pureV (by simp [cls, ho]) (v := a.eval x) (fun u => by simp [execOp, ho]) (.pure s hk (hf.ev cx hgl _ _))
theorem op_assign {x : Operand} (ho : o.op = .assign x) (hk : K (fr.ev cx o.type x) fr.loc h) : Step cx o a w (Done K h0 w0 g0 g l fr.loc) :=
  .pureV (by simp [cls, ho]) (v := a.eval x) (fun u => by simp [execOp, ho]) (.pure s hk (hf.ev cx hgl _ _))
theorem op_pick {c x y : Operand} (ho : o.op = .pick c x y)
    (hk : boolP (fr.ev cx 0 c) fun t => ifB t (K (fr.ev cx o.type x) fr.loc h) (K (fr.ev cx o.type y) fr.loc h)) : Step cx o a w (Done K h0 w0 g0 g l fr.loc) := by
  obtain ⟨b, hb, hk⟩ := boolP_elim hk
  have hc := hf.evV cx hgl _ _ hb
  cases hcv : a.eval c <;> rw [hcv] at hc <;> cases hc
  rcases ifB_elim hk with ⟨rfl, hk⟩ | ⟨rfl, hk⟩
  · exact .pureV (by simp [cls, ho]) (v := a.eval x) (fun u => by simp [execOp, ho, hcv, asBool]) (.pure s hk (hf.ev cx hgl _ _))
  · exact .pureV (by simp [cls, ho]) (v := a.eval y) (fun u => by simp [execOp, ho, hcv, asBool]) (.pure s hk (hf.ev cx hgl _ _))

include hty

theorem op_load {T : TypeId} {x : Operand} (ho : o.op = .load T x) {C : FuncId → List AV → H → (AV → H → Prop) → Prop} (hk : aop cx C o fr h K) : Step cx o a w (Done K h0 w0 g0 g l fr.loc) := by
  unfold aop at hk
  simp only [ho] at hk
  have hx := hf.ev cx hgl 0 x
  cases hs : fr.ev cx 0 x with
  | lp i off =>
    rw [hs] at hk hx
    obtain ⟨hd, hk⟩ := knownP_elim hk
    obtain ⟨b, hi, hv⟩ := hx
    cases hl : fr.loc[i]? with
    | none => rw [hl] at hk; exact hk.elim
    | some bx =>
      obtain ⟨e, cs⟩ := bx
      rw [hl] at hk
      obtain ⟨vs, h1, h2⟩ := H.lp_cells s hi hl
      cases ha : (cx.ti T).agg with
      | true =>
        simp only [ha] at hk
        obtain ⟨hlen, hk⟩ := takeP_elim hk
        have hvl : (vs.toList.drop off |>.take (cx.ti T).size).length = (cx.ti T).size := by
          have := h2.length; simp at this; simp; omega
        have hrun := fun (u : World) (hu : Sub w u) => (run_loadVar_of (P := cx.P) (w := u) (hty T) hd (b := b) (o := off) (vs := (vs.toList.drop off).take (cx.ti T).size) (fun j v hj => by
          obtain ⟨_, h6⟩ := getElem?_take_drop hj
          refine hu.cell ?_
          rw [Addr.add_lit, cell_of h1]; simpa using h6) hvl).1 ha
        refine .loadV (by simp [cls, ho]) (v := .agg ((vs.toList.drop off).take (cx.ti T).size).toArray) (fun u hu => by simp [execOp, ho, hv, Instr.loadAt, Instr.sureAddr, hrun u hu]) (.pure s hk ?_)
        exact VR.agg _ _ ((h2.drop off).take _)
      | false =>
        simp only [ha] at hk
        cases hc : cs[off]? with
        | none => rw [hc] at hk; exact hk.elim
        | some c =>
          rw [hc] at hk
          obtain ⟨v, hv1, hv2⟩ := h2.get hc
          have hrun := fun (u : World) (hu : Sub w u) => (run_loadVar_of (P := cx.P) (w := u) (hty T) hd (b := b) (o := off) (vs := [v]) (fun j u hj => by
            cases j with
            | zero => simp at hj; subst hj; refine hu.cell ?_; rw [Addr.add_lit, cell_of h1]; simpa using hv1
            | succ j => simp at hj) (by rw [(hty T).one ha hd]; rfl)).2 ha v rfl
          exact .loadV (by simp [cls, ho]) (v := v) (fun u hu => by simp [execOp, ho, hv, Instr.loadAt, Instr.sureAddr, hrun u hu]) (.pure s hk hv2)
  | v p =>
    rw [hs] at hk hx
    obtain ⟨cs, b, off, hv, hlen, hk, hcells⟩ := ldM_elim s.rel hx hk
    obtain ⟨hr, hd⟩ := readP_elim hk
    obtain ⟨vs, h1, h2⟩ := cells_list hcells
    have hl : vs.length = (cx.ti T).size := by rw [← h1.length, hlen]
    have rr := fun (u : World) (hu : Sub w u) => run_loadVar_of (P := cx.P) (w := u) (hty T) hd (fun j v hj => hu.cell (h2 j v hj)) hl
    rcases hr with ⟨ha, hk'⟩ | ⟨ha, c, hcs, hk'⟩
    · exact .loadV (by simp [cls, ho]) (v := .agg vs.toArray) (fun u hu => by simp [execOp, ho, hv, Instr.loadAt, Instr.sureAddr, (rr u hu).1 ha]) (.pure s hk' (VR.agg _ _ h1))
    · rw [hcs] at h1
      cases h1 with
      | @cons _ v _ _ hc hn =>
        cases hn
        exact .loadV (by simp [cls, ho]) (v := v) (fun u hu => by simp [execOp, ho, hv, Instr.loadAt, Instr.sureAddr, (rr u hu).2 ha _ rfl]) (.pure s hk' hc)

omit hty in
theorem op_nilCheck {x : Operand} (ho : o.op = .nilCheck x) {C : FuncId → List AV → H → (AV → H → Prop) → Prop} (hk : aop cx C o fr h K) : Step cx o a w (Done K h0 w0 g0 g l fr.loc) := by
  unfold aop at hk
  simp only [ho] at hk
  have hx := hf.ev cx hgl 0 x
  cases hs : fr.ev cx 0 x with
  | lp i off =>
    rw [hs] at hk hx
    have hx' := hx
    obtain ⟨b, hi, hv⟩ := hx
    exact .pureV (by simp [cls, ho]) (v := a.eval x) (fun u => by simp [execOp, ho, hv]) (.pure s hk hx')
  | v p =>
    rw [hs] at hk hx
    obtain ⟨hk, hp⟩ := nnP_elim hk
    refine .pureV (by simp [cls, ho]) (v := a.eval x) ?_ (.pure s hk hx)
    intro u
    rcases hp with ⟨b, o', rfl⟩ | ⟨cs, o', rfl⟩ | ⟨s', xs, i, o', rfl⟩ | ⟨f, a1, b1, rfl⟩ | ⟨t, y, rfl⟩ <;> (
      have hx : VR g _ (a.eval x) := hx
      unfold execOp
      simp only [ho]
      generalize a.eval x = xv at hx ⊢
      cases hx
      rfl)

theorem op_store {T : TypeId} {x y : Operand} (ho : o.op = .store T x y) {C : FuncId → List AV → H → (AV → H → Prop) → Prop} (hk : aop cx C o fr h K) : Step cx o a w (Done K h0 w0 g0 g l fr.loc) := by
  unfold aop at hk
  simp only [ho] at hk
  obtain ⟨hd, hk⟩ := knownP_elim hk
  obtain ⟨v, hv, hk⟩ := slotV_elim hk
  obtain ⟨xs, hk, hpart⟩ := partP_elim hk
  have hy := hf.evV cx hgl _ _ hv
  have hcells := part_cells hpart hy
  have hlen : (a.eval y).cells.size = (cx.ti T).size := by
    have h1 := hcells.length
    have h2 := part_len (hty T) hd hpart
    simp at h1; omega
  have hx := hf.ev cx hgl 0 x
  have hrun : ∀ (ad : Addr) (w' : World), (storeCells ad (a.eval y).cells.toList).run cx.P w = .ok () w' → a.eval x = .pointer (some ad) → (execOp a.eval o).run cx.P w = .ok .skip w' := by
    intro ad w' h1 h2
    simp [execOp, ho, h2, Instr.storeAt, Instr.sureAddr, storeVar, run_size (hty T) hd, hlen, h1]
  cases hs : fr.ev cx 0 x with
  | lp i off =>
    rw [hs] at hk hx
    simp only at hk
    obtain ⟨b, hi, hxv⟩ := hx
    cases hl : fr.loc[i]? with
    | none => rw [hl] at hk; exact hk.elim
    | some bx =>
      obtain ⟨e, cs⟩ := bx
      rw [hl] at hk
      cases hone : xs.all AV.one with
      | false => rw [hone] at hk; exact hk.elim
      | true =>
        rw [hone] at hk
        simp only at hk
        cases hb : Nat.ble (off + xs.length) cs.length with
        | false => rw [hb] at hk; exact hk.elim
        | true =>
          rw [hb] at hk
          obtain ⟨w', s', hst⟩ := stL_sound (P := cx.P) s hi hl hcells hone hb
          exact ⟨undef, w', .inr ⟨rfl, hrun _ _ hst hxv⟩, ⟨g, l, undefS, _, h, .set hl (splice_len (Nat.le_of_ble_eq_true hb)), hk, s', .refl g, fun _ _ h => h, undef_sr⟩, by simp [Cl, cls, ho]⟩
  | v p =>
    rw [hs] at hk hx
    obtain ⟨ad, h', w', hxv, hk, s', hst⟩ := stM_sound (P := cx.P) s hx hcells hk
    exact ⟨undef, w', .inr ⟨rfl, hrun _ _ hst hxv⟩, ⟨g, l, undefS, _, h', .refl _, hk, s', .refl g, fun _ _ h => h, undef_sr⟩, by simp [Cl, cls, ho]⟩

theorem op_fieldAddr {T : TypeId} {x : Operand} {f : Nat} (ho : o.op = .fieldAddr T x f) {C : FuncId → List AV → H → (AV → H → Prop) → Prop} (hk : aop cx C o fr h K) : Step cx o a w (Done K h0 w0 g0 g l fr.loc) := by
  unfold aop at hk
  simp only [ho] at hk
  have hT := (hty T).d
  cases hd : (cx.ti T).d with
  | strct fs =>
    rw [hd] at hk hT
    obtain ⟨F, hF, hfs⟩ := hT
    simp only at hk
    cases hfi : fs[f]? with
    | none => rw [hfi] at hk; exact hk.elim
    | some ot =>
      obtain ⟨off, t⟩ := ot
      rw [hfi] at hk
      obtain ⟨hkn, hk⟩ := knownP_elim hk
      obtain ⟨fd, hfd, hfo⟩ : ∃ fd, F[f]? = some fd ∧ (fd.offset, fd.type) = (off, t) := by
        rw [← hfs, List.getElem?_map] at hfi
        cases hq : F.toList[f]? with
        | none => rw [hq] at hfi; cases hfi
        | some fd => rw [hq] at hfi; exact ⟨fd, by simpa using hq, by simpa using hfi⟩
      simp only [Prod.mk.injEq] at hfo
      obtain ⟨rfl, rfl⟩ := hfo
      have hx := hf.ev cx hgl 0 x
      cases hsz : Nat.blt 0 (cx.ti fd.type).size with
      | false => rw [hsz] at hk; exact hk.elim
      | true =>
        have hne : (cx.ti fd.type).size ≠ 0 := by
          intro e; rw [e] at hsz; cases hsz
        have hrun : ∀ b off, a.eval x = .pointer (some ⟨b, off, none⟩) → ∀ u, (execOp a.eval o).run cx.P u = .ok (.value (.pointer (some ⟨b, off + fd.offset, none⟩))) u := by
          intro b off h1 u
          simp [execOp, ho, h1, Instr.fieldAt, run_under hF, hfd, Instr.sureAddr, fieldPlace, run_size (hty fd.type) hkn, hne, Addr.add_lit]
        rw [hsz] at hk
        cases hs : fr.ev cx 0 x with
        | lp i off =>
          rw [hs] at hk hx
          obtain ⟨b, hi, hxv⟩ := hx
          exact .pureV (by simp [cls, ho]) (hrun _ _ hxv) (.pure s hk ⟨b, hi, rfl⟩)
        | v p =>
          rw [hs] at hk hx
          obtain ⟨hk, hp⟩ := ptrP_elim hk
          obtain ⟨b, off, hxv, hadd⟩ := VR.ptr_inv hx hp
          exact .pureV (by simp [cls, ho]) (hrun _ _ hxv) (.pure s hk (hadd _))
  | _ => rw [hd] at hk; exact hk.elim

theorem op_field {T : TypeId} {x : Operand} {f : Nat} (ho : o.op = .field T x f) {C : FuncId → List AV → H → (AV → H → Prop) → Prop} (hk : aop cx C o fr h K) : Step cx o a w (Done K h0 w0 g0 g l fr.loc) := by
  unfold aop at hk
  simp only [ho] at hk
  have hT := (hty T).d
  cases hd : (cx.ti T).d with
  | strct fs =>
    rw [hd] at hk hT
    obtain ⟨F, hF, hfs⟩ := hT
    simp only at hk
    cases hfi : fs[f]? with
    | none => rw [hfi] at hk; exact hk.elim
    | some ot =>
      obtain ⟨off, t⟩ := ot
      rw [hfi] at hk
      obtain ⟨v, hv, hk⟩ := slotV_elim hk
      have hx := hf.evV cx hgl _ _ hv
      cases v <;> simp only at hk
      rename_i cs
      obtain ⟨hkn, hk⟩ := knownP_elim hk
      obtain ⟨fd, hfd, hfo⟩ : ∃ fd, F[f]? = some fd ∧ (fd.offset, fd.type) = (off, t) := by
        rw [← hfs, List.getElem?_map] at hfi
        cases hq : F.toList[f]? with
        | none => rw [hq] at hfi; cases hfi
        | some fd => rw [hq] at hfi; exact ⟨fd, by simpa using hq, by simpa using hfi⟩
      simp only [Prod.mk.injEq] at hfo
      obtain ⟨rfl, rfl⟩ := hfo
      generalize hxv : a.eval x = xv at hx
      cases hx with
      | agg _ vs hvs =>
      cases ha : (cx.ti fd.type).agg with
      | true =>
        rw [ha] at hk
        refine .pureV (by simp [cls, ho]) (v := .agg ((vs.drop fd.offset).take (cx.ti fd.type).size).toArray) ?_ (.pure s hk (VR.agg _ _ ((hvs.drop _).take _)))
        intro u
        simp [execOp, ho, hxv, Instr.field, run_under hF, hfd, asAgg, part, run_isAgg (hty fd.type) hkn, ha, run_size (hty fd.type) hkn]
      | false =>
        rw [ha] at hk
        simp only at hk
        cases hc : cs[fd.offset]? with
        | none => rw [hc] at hk; exact hk.elim
        | some c =>
          rw [hc] at hk
          obtain ⟨v, hv1, hv2⟩ := hvs.get hc
          refine .pureV (by simp [cls, ho]) (v := v) ?_ (.pure s hk hv2)
          intro u
          simp [execOp, ho, hxv, Instr.field, run_under hF, hfd, asAgg, part, run_isAgg (hty fd.type) hkn, ha, hv1]
  | _ => rw [hd] at hk; exact hk.elim

omit hty in
theorem op_extract {x : Operand} {i : Nat} (ho : o.op = .extract x i) {C : FuncId → List AV → H → (AV → H → Prop) → Prop} (hk : aop cx C o fr h K) : Step cx o a w (Done K h0 w0 g0 g l fr.loc) := by
  unfold aop at hk
  simp only [ho] at hk
  split at hk
  · rename_i vs hs
    cases hi : vs[i]? with
    | none => rw [hi] at hk; exact hk.elim
    | some v =>
      rw [hi] at hk
      have hx := hf.evV cx hgl _ _ hs
      generalize hxv : a.eval x = xv at hx
      cases hx with
      | tup _ us hus =>
        obtain ⟨u, hu1, hu2⟩ := hus.get hi
        exact .pureV (by simp [cls, ho]) (v := u) (fun _ => by simp [execOp, ho, hxv, Instr.extract, hu1]) (.pure s hk hu2)
  · exact hk.elim

theorem op_indexAddr {T : TypeId} {x ix : Operand} (ho : o.op = .indexAddr T x ix) {C : FuncId → List AV → H → (AV → H → Prop) → Prop} (hk : aop cx C o fr h K) : Step cx o a w (Done K h0 w0 g0 g l fr.loc) := by
  unfold aop at hk
  simp only [ho] at hk
  obtain ⟨k, n, hn, hk⟩ := intP_elim hk
  have hix := hf.evV cx hgl _ _ hn
  generalize hixv : a.eval ix = ixv at hix
  cases hix
  have hT := (hty T).d
  cases hd : (cx.ti T).d with
  | slice e =>
    rw [hd] at hk hT
    obtain ⟨hkn, hk⟩ := knownP_elim hk
    obtain ⟨v, hv, hk⟩ := slotV_elim hk
    have hx := hf.evV cx hgl _ _ hv
    generalize hxv : a.eval x = xv at hx
    cases hx <;> simp only [idxP] at hk <;> first
      | exact hk.elim
      | skip
    · obtain ⟨_, ⟨h1, h2⟩, _⟩ := hk; simp at h2; omega
    · rename_i t sz xs vs b o' cap hvs hsz hh htok hcl
      obtain ⟨rfl, ⟨h1, h2⟩, hk⟩ := hk
      refine .pureV (by simp [cls, ho]) (v := .pointer (some ⟨b, o' + n.toNat * (cx.ti e).size, none⟩)) ?_ (.pure s hk ?_)
      · intro u; simp [execOp, ho, hxv, hixv, Instr.indexAt, asIntOf, run_under hT, h1, h2, run_size (hty e) hkn, Addr.add_lit]
      · exact VR.elp (g := g) _ xs n.toNat 0 vs b o' hvs hsz hh
    · rename_i b off len cap
      obtain ⟨⟨h1, h2⟩, hk⟩ := hk
      refine .pureV (by simp [cls, ho]) (v := .pointer (some ⟨b, off + n.toNat * (cx.ti e).size, none⟩)) ?_ (.pure s hk (.ptr _ _))
      intro u
      simp [execOp, ho, hxv, hixv, Instr.indexAt, asIntOf, run_under hT, h1, h2, run_size (hty e) hkn, Addr.add_lit]
  | arr len e =>
    rw [hd] at hk hT
    obtain ⟨hkn, hk⟩ := knownP_elim hk
    have hx := hf.ev cx hgl 0 x
    have hrun : ∀ b off, a.eval x = .pointer (some ⟨b, off, none⟩) → 0 ≤ n → n < len → ∀ u, (execOp a.eval o).run cx.P u = .ok (.value (.pointer (some ⟨b, off + n.toNat * (cx.ti e).size, none⟩))) u := by
      intro b off h1 h2 h3 u
      simp [execOp, ho, h1, hixv, Instr.indexAt, asIntOf, run_under hT, h2, h3, run_size (hty e) hkn, Instr.sureAddr, Addr.add_lit]
    cases hs : fr.ev cx 0 x with
    | lp i off =>
      rw [hs] at hk hx
      simp only at hk
      obtain ⟨b, hi, hxv⟩ := hx
      cases n with
      | ofNat m =>
        simp only at hk
        cases hb : Nat.blt m len with
        | false => rw [hb] at hk; exact hk.elim
        | true =>
          rw [hb] at hk
          have hlt : m + 1 ≤ len := by simpa [Nat.blt] using hb
          refine .pureV (by simp [cls, ho]) (hrun _ _ hxv (by simp) (by simp; omega)) (.pure s hk ⟨b, hi, ?_⟩)
          simp
      | negSucc m => exact hk.elim
    | v p =>
      rw [hs] at hk hx
      obtain ⟨⟨⟨h1, h2⟩, hk⟩, hp⟩ := ptrP_elim hk
      obtain ⟨b, off, hxv, hadd⟩ := VR.ptr_inv hx hp
      exact .pureV (by simp [cls, ho]) (hrun _ _ hxv h1 h2) (.pure s hk (hadd _))
  | _ => rw [hd] at hk; exact hk.elim

theorem op_index {T : TypeId} {x ix : Operand} (ho : o.op = .index T x ix) {C : FuncId → List AV → H → (AV → H → Prop) → Prop} (hk : aop cx C o fr h K) : Step cx o a w (Done K h0 w0 g0 g l fr.loc) := by
  unfold aop at hk
  simp only [ho] at hk
  have hT := (hty T).d
  cases hd : (cx.ti T).d <;> rw [hd] at hk hT <;> simp only [TDok] at hT hk
  obtain ⟨k, n, hn, hk⟩ := intP_elim hk
  have hix := hf.evV cx hgl _ _ hn
  generalize hixv : a.eval ix = ixv at hix
  cases hix
  obtain ⟨v, hv, hk⟩ := slotV_elim hk
  have hx := hf.evV cx hgl _ _ hv
  generalize hxv : a.eval x = xv at hx
  cases hx <;> simp only at hk
  rename_i bs
  obtain ⟨⟨h1, h2⟩, hk⟩ := hk
  have hlt : n.toNat < bs.length := by omega
  refine .pureV (by simp [cls, ho]) (v := .int .u8 ((bs.getD n.toNat 0).toNat : Int)) ?_ (.pure s hk (.int _ _))
  intro u
  have e : (⟨bs.toArray⟩ : ByteArray)[n.toNat]? = some (bs.getD n.toNat 0) := by
    rw [List.getD_eq_getElem?_getD, List.getElem?_eq_getElem hlt]
    have hsz : n.toNat < (⟨bs.toArray⟩ : ByteArray).size := by simpa [ByteArray.size] using hlt
    rw [getElem?_pos (⟨bs.toArray⟩ : ByteArray) n.toNat hsz]
    rfl
  simp only [execOp, ho, hxv, hixv, Instr.index, asIntOf, run_under hT, h1, if_true, e, Sem.run_bind, Sem.run_pure, Result.andThen_ok]

theorem op_makeInterface {T : TypeId} {x : Operand} (ho : o.op = .makeInterface T x) {C : FuncId → List AV → H → (AV → H → Prop) → Prop} (hk : aop cx C o fr h K) : Step cx o a w (Done K h0 w0 g0 g l fr.loc) := by
  unfold aop at hk
  simp only [ho] at hk
  have hT := (hty T).d
  have fin : (slotV (fr.ev cx T x) fun v => K (.v (.ifc T v)) fr.loc h) → (∃ d, cx.P.underlying T = some d ∧ ∀ ms, d ≠ .interface ms) → Step cx o a w (Done K h0 w0 g0 g l fr.loc) := by
    intro hk ⟨d, hd, hni⟩
    obtain ⟨v, hv, hk⟩ := slotV_elim hk
    have hx := hf.evV cx hgl _ _ hv
    refine .pureV (by simp [cls, ho]) (v := .iface T (a.eval x)) ?_ (.pure s hk (.ifc _ _ _ hx))
    intro u
    simp only [execOp, ho, Instr.makeInterface, Sem.run_bind, run_under hd, Result.andThen_ok]
    cases d <;> first
      | exact absurd rfl (hni _)
      | rfl
  cases hd : (cx.ti T).d <;> rw [hd] at hk hT <;> simp only [TDok] at hT <;> first
    | exact hk.elim
    | exact fin hk ⟨_, hT, fun _ => by simp⟩
    | (obtain ⟨F, hF, _⟩ := hT; exact fin hk ⟨_, hF, fun _ => by simp⟩)
    | (obtain ⟨F, G, I, hF⟩ := hT; exact fin hk ⟨_, hF, fun _ => by simp⟩)

end
end Go.AM

namespace Go.AM
open Go

section
variable {cx : Cx} {o : Oper} {fr : Fr} {h0 h : H} {w0 w : World} {g0 g : Gh} {l : List Nat} {a : Act} {K : Slot → List Box → H → Prop}

theorem run_binI {P : Program} {op : BinOp} {k k' : IntKind} {a b : Int} {t : TypeId} {K : AV → Prop} (hk : binI op k a k' b K) :
    ∃ v av, (∀ w, (binOp op t (.int k a) (.int k' b)).run P w = .ok v w) ∧ VR g av v ∧ K av := by
  have cmp : ∀ op, isCmp op = true → ifN (ik k) (ik k') (K (.bool (cmpI op a b))) → ∃ v av, (∀ w, (binOp op t (.int k a) (.int k' b)).run P w = .ok v w) ∧ VR g av v ∧ K av := by
    intro op hop hk
    obtain ⟨e, hk'⟩ := ifN_elim hk
    obtain rfl := ik_inj e
    refine ⟨.bool (cmpI op a b), _, ?_, .bool _, hk'⟩
    cases op <;> simp [isCmp] at hop <;> simp [cmpI, binOp, Op.intCmp]
  have arith : ∀ op, ((op = .add ∨ op = .sub ∨ op = .mul) ∨ (op = .and ∨ op = .or ∨ op = .xor ∨ op = .andNot)) → ifN (ik k) (ik k') (K (.int k (ar op k a b))) → ∃ v av, (∀ w, (binOp op t (.int k a) (.int k' b)).run P w = .ok v w) ∧ VR g av v ∧ K av := by
    intro op hop hk
    obtain ⟨e, hk'⟩ := ifN_elim hk
    obtain rfl := ik_inj e
    refine ⟨.int k (ar op k a b), _, ?_, .int _ _, hk'⟩
    rcases hop with (rfl | rfl | rfl) | (rfl | rfl | rfl | rfl) <;> simp [ar, binOp, Op.intArith, Op.intBits]
  have shift : ∀ op, (op = .shl ∨ op = .shr) → (0 ≤ b ∧ K (.int k (ar op k a b))) → ∃ v av, (∀ w, (binOp op t (.int k a) (.int k' b)).run P w = .ok v w) ∧ VR g av v ∧ K av := by
    intro op hop ⟨hb, hk⟩
    refine ⟨.int k (ar op k a b), _, ?_, .int _ _, hk⟩
    have hn : ¬ (b < 0) := by omega
    rcases hop with rfl | rfl <;> simp [ar, binOp, Op.shift, hn]
  have div : ∀ op, (op = .quo ∨ op = .rem) → ifN (ik k) (ik k') (b ≠ 0 ∧ K (.int k (ar op k a b))) → ∃ v av, (∀ w, (binOp op t (.int k a) (.int k' b)).run P w = .ok v w) ∧ VR g av v ∧ K av := by
    intro op hop hk
    obtain ⟨e, hb, hk'⟩ := ifN_elim hk
    obtain rfl := ik_inj e
    refine ⟨.int k (ar op k a b), _, ?_, .int _ _, hk'⟩
    rcases hop with rfl | rfl <;> simp [ar, binOp, Op.intDiv, hb]
  cases op <;> simp only [binI] at hk <;> first
    | exact cmp _ rfl hk
    | exact shift _ (by simp) hk
    | exact div _ (by simp) hk
    | exact arith _ (by simp) hk

theorem run_binS {P : Program} {op : BinOp} {a b : List UInt8} {t : TypeId} {K : AV → Prop} (hk : binS op a b K) :
    ∃ v av, (∀ w, (binOp op t (.string ⟨a.toArray⟩) (.string ⟨b.toArray⟩)).run P w = .ok v w) ∧ VR g av v ∧ K av := by
  have hl : ∀ x : List UInt8, (⟨x.toArray⟩ : ByteArray).toList = x := fun x => ByteArray.toList_mk x
  have cmp : ∀ op, isCmp op = true → (match isCmp op with | true => K (.bool (cmpS op a b)) | false => False) → ∃ v av, (∀ w, (binOp op t (.string ⟨a.toArray⟩) (.string ⟨b.toArray⟩)).run P w = .ok v w) ∧ VR g av v ∧ K av := by
    intro op hop hk
    rw [hop] at hk
    refine ⟨.bool (cmpS op a b), _, ?_, .bool _, hk⟩
    cases op <;> simp [isCmp] at hop <;> simp [cmpS, binOp, Op.stringOp, hl]
  cases op <;> simp only [binS] at hk <;> first
    | exact cmp _ rfl hk
    | (simp [isCmp] at hk; done)
    | skip
  obtain ⟨h1, hk⟩ := hk
  refine ⟨.string ⟨(a ++ b).toArray⟩, _, ?_, .str _, hk⟩
  have h2 : ¬ (9223372036854775807 < ((a.length : Int) + (b.length : Int))) := by omega
  simp [binOp, Op.stringOp, ByteArray.size, h2]
  rfl

variable (hty : TyOK cx) (hgl : GlOK cx.gl g) (s : SI h0 w0 g0 g h l fr.loc w) (hf : FRel g l fr a)

theorem run_eqGuard_int {P : Program} {op : BinOp} {t : TypeId} {x y : Operand} {k k' : IntKind} {m n : Int} : (eqGuard op t x y (.int k m) (.int k' n)).run P w = .ok () w := by
  cases op <;> rfl
theorem run_eqGuard_str {P : Program} {op : BinOp} {t : TypeId} {x y : Operand} {m n : ByteArray} : (eqGuard op t x y (.string m) (.string n)).run P w = .ok () w := by
  cases op <;> rfl
theorem run_eqGuard_bool {P : Program} {op : BinOp} {t : TypeId} {x y : Operand} {m n : Bool} : (eqGuard op t x y (.bool m) (.bool n)).run P w = .ok () w := by
  cases op <;> rfl


theorem nilConst_val {k : NK} {x : Operand} (h : nilConst k x = true) :
    ∃ z, x = .const z ∧ (k = .p ∧ z = .pointer none ∨ k = .i ∧ z = .nilIface ∨ k = .f ∧ z = .nilFunc ∨ k = .m ∧ z = .map none ∨ k = .s ∧ z = .slice none 0 0) := by
  unfold nilConst at h
  split at h <;> first
    | exact ⟨_, rfl, by simp⟩
    | cases h

def nkOK (P : Program) (t : TypeId) : NK → Prop
  | .p => ∃ e, P.underlying t = some (.pointer e)
  | .i => ∃ ms, P.underlying t = some (.interface ms)
  | .f => ∃ a b c, P.underlying t = some (.func a b c)
  | .m => ∃ a b, P.underlying t = some (.map a b)
  | .s => ∃ a, P.underlying t = some (.slice a)

theorem run_equalIn_nil {P : Program} (d : Nat) {t : TypeId} {k : NK} (ht : nkOK P t k) {av : AV} {v z : Value} (hv : VR g av v)
    (hz : k = .p ∧ z = .pointer none ∨ k = .i ∧ z = .nilIface ∨ k = .f ∧ z = .nilFunc ∨ k = .m ∧ z = .map none ∨ k = .s ∧ z = .slice none 0 0) {K : Bool → Prop} (hk : nilOf k av K) :
    ∃ r, K r ∧ (∀ w, (Op.equalIn (d + 1) t v z).run P w = .ok r w) ∧ (∀ w, (Op.equalIn (d + 1) t z v).run P w = .ok r w) := by
  rcases hz with ⟨rfl, rfl⟩ | ⟨rfl, rfl⟩ | ⟨rfl, rfl⟩ | ⟨rfl, rfl⟩ | ⟨rfl, rfl⟩
  · obtain ⟨e, ht⟩ := ht
    cases hv <;> simp only [nilOf, nilPtr] at hk <;> first
      | exact hk.elim
      | exact ⟨_, hk, by simp [Op.equalIn, run_under ht], by simp [Op.equalIn, run_under ht]⟩
  · obtain ⟨e, ht⟩ := ht
    cases hv <;> simp only [nilOf, nilIf] at hk <;> first
      | exact hk.elim
      | exact ⟨_, hk, by simp [Op.equalIn, run_under ht], by simp [Op.equalIn, run_under ht]⟩
  · obtain ⟨e, e1, e2, ht⟩ := ht
    cases hv <;> simp only [nilOf, nilFn] at hk <;> first
      | exact hk.elim
      | exact ⟨_, hk, by simp [Op.equalIn, run_under ht], by simp [Op.equalIn, run_under ht]⟩
  · obtain ⟨e, e1, ht⟩ := ht
    cases hv <;> simp only [nilOf, nilMp] at hk <;> first
      | exact hk.elim
      | skip
    rename_i r
    cases r <;> exact ⟨_, hk, by simp [Op.equalIn, run_under ht], by simp [Op.equalIn, run_under ht]⟩
  · obtain ⟨e, ht⟩ := ht
    cases hv <;> simp only [nilOf, nilSl] at hk <;> first
      | exact hk.elim
      | skip
    · exact ⟨true, hk true (fun _ => trivial), fun w => by unfold Op.equalIn; rw [Sem.run_bind, run_under ht]; rfl, fun w => by unfold Op.equalIn; rw [Sem.run_bind, run_under ht]; rfl⟩
    · exact ⟨false, hk false (fun h => by cases h), fun w => by unfold Op.equalIn; rw [Sem.run_bind, run_under ht]; rfl, fun w => by unfold Op.equalIn; rw [Sem.run_bind, run_under ht]; rfl⟩
    · exact ⟨false, hk, fun w => by unfold Op.equalIn; rw [Sem.run_bind, run_under ht]; rfl, fun w => by unfold Op.equalIn; rw [Sem.run_bind, run_under ht]; rfl⟩

theorem run_equal_nil {P : Program} {t : TypeId} {k : NK} (ht : nkOK P t k) {av : AV} {v z : Value} (hv : VR g av v)
    (hz : k = .p ∧ z = .pointer none ∨ k = .i ∧ z = .nilIface ∨ k = .f ∧ z = .nilFunc ∨ k = .m ∧ z = .map none ∨ k = .s ∧ z = .slice none 0 0) {K : Bool → Prop} (hk : nilOf k av K) :
    ∃ r, K r ∧ (∀ w, (Op.equal t v z).run P w = .ok r w) ∧ (∀ w, (Op.equal t z v).run P w = .ok r w) := run_equalIn_nil 9999 ht hv hz hk

theorem binOp_eql_other {P : Program} {t : TypeId} {v z : Value} (h1 : ∀ k n, v ≠ .int k n) (h2 : ∀ k n, v ≠ .float k n) (h3 : ∀ k m n, v ≠ .complex k m n) (h4 : ∀ s, v ≠ .string s) {r : Bool} (hr : (Op.equal t v z).run P w = .ok r w) :
    (binOp .eql t v z).run P w = .ok (.bool r) w ∧ (binOp .neq t v z).run P w = .ok (.bool (!r)) w := by
  cases v <;> first
    | exact absurd rfl (h1 _ _)
    | exact absurd rfl (h2 _ _)
    | exact absurd rfl (h3 _ _ _)
    | exact absurd rfl (h4 _)
    | (constructor <;> simp [binOp, hr])

theorem nil_not {k : NK} {z : Value} (hz : k = .p ∧ z = .pointer none ∨ k = .i ∧ z = .nilIface ∨ k = .f ∧ z = .nilFunc ∨ k = .m ∧ z = .map none ∨ k = .s ∧ z = .slice none 0 0) :
    (∀ k n, z ≠ .int k n) ∧ (∀ k n, z ≠ .float k n) ∧ (∀ k m n, z ≠ .complex k m n) ∧ (∀ s, z ≠ .string s) := by
  rcases hz with ⟨rfl, rfl⟩ | ⟨rfl, rfl⟩ | ⟨rfl, rfl⟩ | ⟨rfl, rfl⟩ | ⟨rfl, rfl⟩ <;> simp

theorem nilOf_not {k : NK} {av : AV} {v : Value} (hv : VR g av v) {K : Bool → Prop} (hk : nilOf k av K) :
    (∀ k n, v ≠ .int k n) ∧ (∀ k n, v ≠ .float k n) ∧ (∀ k m n, v ≠ .complex k m n) ∧ (∀ s, v ≠ .string s) := by
  cases k <;> cases hv <;> simp only [nilOf, nilPtr, nilIf, nilFn, nilMp, nilSl] at hk <;> simp

theorem run_nilCmp {P : Program} {t : TypeId} {k : NK} (ht : nkOK P t k) {op : BinOp} {x y : Operand} {av bv : AV} {u v : Value} (hu : VR g av u) (hv : VR g bv v)
    (hx : ∀ z, x = .const z → u = z) (hy : ∀ z, y = .const z → v = z) {K : AV → Prop} (hk : nilCmp k op x y av bv K) :
    ∃ r, K (.bool r) ∧ ∀ w, (eqGuard op t x y u v >>= fun _ => binOp op t u v).run P w = .ok (.bool r) w := by
  have guard : ∀ op, (nilConst k y = true ∨ nilConst k x = true) → ((∃ z, y = .const z) ∨ ∃ z, x = .const z) → (∀ as bs, ¬ (u = .agg as ∧ v = .agg bs)) → ∀ w, (eqGuard op t x y u v).run P w = .ok () w := by
    intro op _ hc hag w
    unfold eqGuard
    cases op <;> simp only [Bool.not_true, Bool.not_false, Bool.false_eq_true, if_false, if_true] <;> first
      | rfl
      | (cases u <;> cases v <;> first
          | rfl
          | exact absurd ⟨rfl, rfl⟩ (hag _ _)
          | (rcases hc with ⟨z, rfl⟩ | ⟨z, rfl⟩ <;> simp))
  have fin : ∀ r0, (∀ w, (Op.equal t u v).run P w = .ok r0 w) → ((∀ k n, u ≠ .int k n) ∧ (∀ k n, u ≠ .float k n) ∧ (∀ k m n, u ≠ .complex k m n) ∧ (∀ s, u ≠ .string s)) →
      (op = .eql ∨ op = .neq) → (∀ w, (eqGuard op t x y u v).run P w = .ok () w) → ∀ w, (eqGuard op t x y u v >>= fun _ => binOp op t u v).run P w = .ok (.bool (neg? op r0)) w := by
    intro r0 hr ⟨n1, n2, n3, n4⟩ hop hg w
    obtain ⟨b1, b2⟩ := binOp_eql_other (w := w) n1 n2 n3 n4 (hr w)
    rcases hop with rfl | rfl
    · simp only [Sem.run_bind, hg, Result.andThen_ok, b1, neg?]
    · simp only [Sem.run_bind, hg, Result.andThen_ok, b2, neg?]
  have main : (op = .eql ∨ op = .neq) → ∃ r, K (.bool r) ∧ ∀ w, (eqGuard op t x y u v >>= fun _ => binOp op t u v).run P w = .ok (.bool r) w := by
    intro hop
    have hk' : (match nilConst k y with
      | true => nilOf k av fun r => K (.bool (neg? op r))
      | false => (match nilConst k x with | true => nilOf k bv fun r => K (.bool (neg? op r)) | false => False)) := by
      rcases hop with rfl | rfl <;> exact hk
    cases hyc : nilConst k y with
    | true =>
      rw [hyc] at hk'
      obtain ⟨z, rfl, hz⟩ := nilConst_val hyc
      obtain rfl := hy z rfl
      obtain ⟨r, hK, hr, _⟩ := run_equal_nil ht hu hz hk'
      refine ⟨_, hK, fin r hr (nilOf_not hu hk') hop (guard op (.inl hyc) (.inl ⟨_, rfl⟩) ?_)⟩
      rintro as bs ⟨_, rfl⟩
      rcases hz with ⟨_, hz⟩ | ⟨_, hz⟩ | ⟨_, hz⟩ | ⟨_, hz⟩ | ⟨_, hz⟩ <;> cases hz
    | false =>
      rw [hyc] at hk'
      cases hxc : nilConst k x with
      | false => rw [hxc] at hk'; exact hk'.elim
      | true =>
        rw [hxc] at hk'
        obtain ⟨z, rfl, hz⟩ := nilConst_val hxc
        obtain rfl := hx z rfl
        obtain ⟨r, hK, _, hr⟩ := run_equal_nil ht hv hz hk'
        refine ⟨_, hK, fin r hr (nil_not hz) hop (guard op (.inr hxc) (.inr ⟨_, rfl⟩) ?_)⟩
        rintro as bs ⟨rfl, _⟩
        rcases hz with ⟨_, hz⟩ | ⟨_, hz⟩ | ⟨_, hz⟩ | ⟨_, hz⟩ | ⟨_, hz⟩ <;> cases hz
  cases op <;> simp only [nilCmp] at hk <;> first
    | exact hk.elim
    | exact main (.inl rfl)
    | exact main (.inr rfl)

include hty hgl s hf

theorem op_binOp {op : BinOp} {t yt : TypeId} {x y : Operand} (ho : o.op = .binOp op t x y yt) {C : FuncId → List AV → H → (AV → H → Prop) → Prop} (hk : aop cx C o fr h K) : Step cx o a w (Done K h0 w0 g0 g l fr.loc) := by
  unfold aop at hk
  simp only [ho] at hk
  obtain ⟨av, hav, hk⟩ := slotV_elim hk
  obtain ⟨bv, hbv, hk⟩ := slotV_elim hk
  have hx := hf.evV cx hgl _ _ hav
  have hy := hf.evV cx hgl _ _ hbv
  have hcx : ∀ z, x = .const z → a.eval x = z := by rintro z rfl; rfl
  have hcy : ∀ z, y = .const z → a.eval y = z := by rintro z rfl; rfl
  have exe : ∀ r w, (eqGuard op t x y (a.eval x) (a.eval y) >>= fun _ => binOp op t (a.eval x) (a.eval y)).run cx.P w = .ok r w → (execOp a.eval o).run cx.P w = .ok (.value r) w := by
    intro r w hr
    simp only [Sem.run_bind] at hr
    simp only [execOp, ho, Sem.run_bind, Sem.run_pure]
    cases hg : (eqGuard op t x y (a.eval x) (a.eval y)).run cx.P w with
    | ok u w' => rw [hg] at hr; simp only [Result.andThen_ok] at hr ⊢; rw [hr]; rfl
    | halt e w' => rw [hg] at hr; cases hr
  have hT := (hty t).d
  unfold binP at hk
  generalize hu : a.eval x = u at hx
  generalize hv : a.eval y = v at hy
  rw [hu, hv] at exe
  rw [hu] at hcx
  rw [hv] at hcy
  have nil : ∀ k, nkOK cx.P t k → nilCmp k op x y av bv (fun v => K (.v v) fr.loc h) → Step cx o a w (Done K h0 w0 g0 g l fr.loc) := by
    intro k hk1 hk2
    obtain ⟨r, hK, hr⟩ := run_nilCmp hk1 hx hy (fun z e => hcx z e) (fun z e => hcy z e) hk2
    exact .pureV (by simp [cls, ho]) (fun u => exe _ u (hr u)) (.pure s hK (.bool r))
  cases hd : (cx.ti t).d <;> rw [hd] at hk hT <;> simp only [TDok] at hT <;> first
    | exact hk.elim
    | exact nil .p ⟨_, hT⟩ hk
    | (obtain ⟨ms, hT⟩ := hT; exact nil .i ⟨_, hT⟩ hk)
    | (obtain ⟨e1, e2, e3, hT⟩ := hT; exact nil .f ⟨_, _, _, hT⟩ hk)
    | exact nil .m ⟨_, _, hT⟩ hk
    | exact nil .s ⟨_, hT⟩ hk
    | skip
  · cases hx <;> simp only at hk
    cases hy <;> simp only at hk
    obtain ⟨v, av', hr, hvr, hK⟩ := run_binI (g := g) (P := cx.P) (t := t) hk
    exact .pureV (by simp [cls, ho]) (fun u => exe _ u (by simp only [Sem.run_bind, run_eqGuard_int, Result.andThen_ok, hr])) (.pure s hK hvr)
  · cases hx <;> simp only at hk
    cases hy <;> simp only at hk
    rename_i p q
    cases op <;> simp only at hk <;> first
      | exact hk.elim
      | exact .pureV (by simp [cls, ho]) (fun u => exe _ u (by simp only [Sem.run_bind, run_eqGuard_bool, Result.andThen_ok]; simp only [binOp, Sem.run_bind, run_equal_bool u t _ _ hT, Result.andThen_ok]; rfl)) (.pure s hk (.bool _))
  · cases hx <;> simp only at hk
    cases hy <;> simp only at hk
    obtain ⟨v, av', hr, hvr, hK⟩ := run_binS (g := g) (P := cx.P) (t := t) hk
    exact .pureV (by simp [cls, ho]) (fun u => exe _ u (by simp only [Sem.run_bind, run_eqGuard_str, Result.andThen_ok, hr])) (.pure s hK hvr)

end
end Go.AM

namespace Go.AM
open Go

section
variable {h0 h : H} {w0 w : World} {g0 g : Gh} {l : List Nat} {loc : List Box} {P : Program}

/-- A new block whose first n cells stay as they are, whatever its mark. -/
theorem Inv.layf (i : Inv h0 w0 g0 g h w) (vs : Array Value) (e : TypeId) (fz : Nat × Nat) (n k : Nat) :
    Inv h0 w0 g0 (g.lay w.heap.size n k vs) h (w.alloc (.cells vs e fz)) ∧ g.le (g.lay w.heap.size n k vs) ∧
    (∀ ws : List Value, (∀ (j : Nat) (v : Value), ws[j]? = some v → j < n ∧ vs[j]? = some v) → (g.lay w.heap.size n k vs).has w.heap.size 0 ws) := by
  have hle : g.le (g.lay w.heap.size n k vs) := Gh.le_lay i.rel.im_new i.rel.lim_new
  refine ⟨⟨⟨?_, ?_, ?_, ?_⟩, i.le.trans hle, ?_, i.tape, i.os, i.output, ?_⟩, hle, ?_⟩
  · intro b j v hk
    by_cases ek : b = w.heap.size
    · subst ek
      simp [Gh.lay] at hk
      rw [World.cell?_alloc_mark]; exact hk.2
    · have hk' : g.im b j = some v := by simpa [Gh.lay, ek] using hk
      rw [World.cell?_alloc_lt w _ _ (i.rel.imblock hk')]; exact i.rel.im b j v hk'
  · intro b l' hk
    by_cases ek : b = w.heap.size
    · subst ek; simp
    · have hk' : g.lim b = some l' := by simpa [Gh.lay, ek] using hk
      have := i.rel.lim b l' hk'; simp; omega
  · intro b o hk
    have hlt := i.rel.block hk
    obtain ⟨⟨y, hy, hr⟩, h2, h3⟩ := i.rel.mm b _ hk
    refine ⟨⟨y, by rw [heap_alloc_old w _ hlt]; exact hy, hr.mono hle⟩, fun j => ?_, h3⟩
    simp [Gh.lay, Nat.ne_of_lt hlt, h2 j]
  · intro b e' hk
    obtain ⟨⟨l', vs', T, h1, h2, h3⟩, h4⟩ := i.rel.tt b e' hk
    have ek : b ≠ w.heap.size := Nat.ne_of_lt (i.rel.tblock hk)
    exact ⟨⟨l', vs', T, by simp [Gh.lay, ek, h1], by rw [heap_alloc_old w _ (i.rel.tblock hk)]; exact h2, h3⟩, fun j hj => by simp [Gh.lay, ek, h4 j hj]⟩
  · simp; have := i.size; omega
  · intro b hk hm ht'
    obtain ⟨h1, h2, h3, h4⟩ := i.keep b hk hm ht'
    have hlt : b < w.heap.size := Nat.lt_of_lt_of_le hk i.size
    exact ⟨(heap_alloc_old w _ hlt).trans h1, h2, h3, fun j => by simp [Gh.lay, Nat.ne_of_lt hlt, h4 j]⟩
  · intro ws hws j v hj
    obtain ⟨h1, h2⟩ := hws j v hj
    simp [Gh.lay, h1, h2]

theorem SI.layf (s : SI h0 w0 g0 g h l loc w) (vs : Array Value) (e : TypeId) (fz : Nat × Nat) (n k : Nat) :
    SI h0 w0 g0 (g.lay w.heap.size n k vs) h l loc (w.alloc (.cells vs e fz)) ∧ g.le (g.lay w.heap.size n k vs) ∧
    (∀ ws : List Value, (∀ (j : Nat) (v : Value), ws[j]? = some v → j < n ∧ vs[j]? = some v) → (g.lay w.heap.size n k vs).has w.heap.size 0 ws) := by
  obtain ⟨h1, h2, h3⟩ := s.inv.layf vs e fz n k
  exact ⟨⟨h1, s.len, s.nd, s.fr⟩, h2, h3⟩
end

theorem optI_elim {s : Option Slot} {d : Int} {K : Int → Prop} (h : optI s d K) : ∃ n, K n ∧ (s = none ∧ n = d ∨ ∃ k, s = some (.v (.int k n))) := by
  unfold optI at h
  split at h
  · exact ⟨_, h, .inl ⟨rfl, rfl⟩⟩
  · exact ⟨_, h, .inr ⟨_, rfl⟩⟩
  · exact h.elim

theorem slots_elim {ss : List Slot} {K : List AV → Prop} (h : slotsV ss K) : ∃ vs, ss = vs.map .v ∧ K vs := by
  induction ss generalizing K with
  | nil => exact ⟨[], rfl, h⟩
  | cons x ss ih =>
    obtain ⟨v, rfl, h⟩ := slotV_elim h
    obtain ⟨vs, rfl, h'⟩ := ih h
    exact ⟨v :: vs, rfl, h'⟩

/-- A bound, or none. -/
def OI (ov : Option Value) (d n : Int) : Prop := (ov = none ∧ n = d) ∨ ∃ k, ov = some (.int k n)

theorem run_sliceBounds {P : Program} {w : World} {isSlice : Bool} {len cap : Nat} {vlo vhi vmx : Option Value} {x y m : Int} (hy : OI vhi len y) (hx : OI vlo 0 x) (hm : OI vmx cap m)
    (hs : vmx ≠ none → vhi ≠ none) (hb : 0 ≤ x ∧ x ≤ y ∧ y ≤ m ∧ m ≤ cap) : (Instr.sliceBounds isSlice len cap vlo vhi vmx).run P w = .ok (x.toNat, y.toNat, m.toNat) w := by
  obtain ⟨h1, h2, h3, h4⟩ := hb
  have sb : ∀ (k : IntKind) (n : Int) (z : Nat) (c : BoundsCode), 0 ≤ n → n ≤ z → (Instr.sliceBound (.int k n) z c).run P w = .ok n.toNat w := by
    intro k n z c e1 e2
    simp [Instr.sliceBound, asIntOf, e1, e2]
  rcases hm with ⟨rfl, rfl⟩ | ⟨km, rfl⟩
  · rcases hy with ⟨rfl, rfl⟩ | ⟨ky, rfl⟩
    · rcases hx with ⟨rfl, rfl⟩ | ⟨kx, rfl⟩
      · simp [Instr.sliceBounds]
      · have e1 := fun c => sb kx x len c h1 h2
        simp [Instr.sliceBounds, e1]
    · have e2 := fun c => sb ky y cap c (by omega) h3
      rcases hx with ⟨rfl, rfl⟩ | ⟨kx, rfl⟩
      · simp [Instr.sliceBounds, e2]
      · have e1 := fun c => sb kx x y.toNat c h1 (by omega)
        simp [Instr.sliceBounds, e1, e2]
  · rcases hy with ⟨rfl, rfl⟩ | ⟨ky, rfl⟩
    · exact absurd rfl (hs (by simp))
    · have e3 := fun c => sb km m cap c (by omega) h4
      have e2 := fun c => sb ky y m.toNat c (by omega) (by omega)
      rcases hx with ⟨rfl, rfl⟩ | ⟨kx, rfl⟩
      · simp [Instr.sliceBounds, e2, e3]
      · have e1 := fun c => sb kx x y.toNat c h1 (by omega)
        simp [Instr.sliceBounds, e1, e2, e3]

/-- What a slice, or a string, holds, and where. -/
theorem rdP_cells {P : Program} {g : Gh} {h : H} {w : World} (r : Rel g h w) {t : TypeId} {i : TI} (hi : TIok P t i) (hd : i.d.isOther = false) {a : AV} {x : Value} (hx : VR g a x) {K : List AV → Prop} (hk : rdP i h a K) :
    ∃ ys vs, K ys ∧ VRs g (ys.flatMap AV.cells) vs ∧ ((∀ y ∈ ys, y.cells.length = i.size)) ∧ (x = .slice none 0 0 ∧ ys = [] ∨ (∃ s : List UInt8, x = .string ⟨s.toArray⟩ ∧ ys = ofStr s) ∨
      ∃ b o cap, x = .slice (some ⟨b, o, none⟩) ys.length cap ∧ ∀ (j : Nat) (v : Value), vs[j]? = some v → w.cell? ⟨b, o + j, none⟩ = some v) := by
  cases hx <;> simp only [rdP] at hk <;> first
    | exact hk.elim
    | skip
  · rename_i s
    obtain ⟨h1, hk⟩ := ifN_elim hk
    refine ⟨_, s.map fun c => .int .u8 c.toNat, hk, ?_, ?_, .inr (.inl ⟨s, rfl, rfl⟩)⟩
    · rw [ofStr_flat]; exact ofStr_vr s
    · intro y hy; simp [ofStr] at hy; obtain ⟨c, _, rfl⟩ := hy; rw [h1]; rfl
  · obtain ⟨h1, hk⟩ := ifN_elim hk
    exact ⟨[], [], hk, .nil, by simp, .inl ⟨rfl, rfl⟩⟩
  · rename_i t' sz xs vs b o cap hs hsz hh ht hc
    obtain ⟨h1, hk'⟩ := ifN_elim hk
    subst h1
    exact ⟨xs, vs, hk', hs, hsz, .inr (.inr ⟨b, o, cap, rfl, fun j v hj => cell_im r hh hj⟩)⟩
  · rename_i b off len cap
    cases hb : h.m b with
    | none => rw [hb] at hk; exact hk.elim
    | some ob =>
      rw [hb] at hk
      cases ob with
      | cells e cs =>
        obtain ⟨hl, h1, hk⟩ := takeP_elim hk
        have hlen : ((cs.drop off).take (len * i.size)).length = len * i.size := by simp; omega
        obtain ⟨e1, e2, e3⟩ := elemsOf_flat i.agg i.size (fun ha => hi.one ha hd) len _ hlen h1
        obtain ⟨us, hu, hr⟩ := r.cells hb
        refine ⟨_, (us.toList.drop off).take (len * i.size), hk, ?_, e3, .inr (.inr ⟨b, off, cap, by rw [e2], fun j v hj => ?_⟩)⟩
        · rw [e1]; exact (hr.drop off).take _
        · obtain ⟨h5, h6⟩ := getElem?_take_drop hj
          rw [cell_of hu]; simpa using h6
      | map _ _ => exact hk.elim
      | iter _ _ _ _ => exact hk.elim

theorem bytes_inv {g : Gh} : ∀ {ys : List AV}, bytesOK ys → ys.flatMap AV.cells = ys ∧ ∀ vs, VRs g ys vs → vs = (strOf ys).map fun c => Value.int .u8 c.toNat
  | [], _ => ⟨rfl, fun vs h => by cases h; rfl⟩
  | y :: ys, hb => by
    obtain ⟨n, rfl⟩ := hb y (by simp)
    obtain ⟨i1, i2⟩ := bytes_inv (g := g) (ys := ys) fun z hz => hb z (by simp [hz])
    refine ⟨by simp [List.flatMap_cons, i1, AV.cells], fun vs h => ?_⟩
    cases h with
    | cons h1 h2 =>
      cases h1
      rw [i2 _ h2]
      simp [strOf]

theorem strOf_ofStr (s : List UInt8) : strOf (ofStr s) = s := by
  induction s with
  | nil => rfl
  | cons c s ih => simp only [strOf, ofStr, List.map_cons, List.map_map] at ih ⊢; simp [ih]

section
variable {cx : Cx} {o : Oper} {fr : Fr} {h0 h : H} {w0 w : World} {g0 g : Gh} {l : List Nat} {a : Act} {K : Slot → List Box → H → Prop}
variable (hty : TyOK cx) (hgl : GlOK cx.gl g) (s : SI h0 w0 g0 g h l fr.loc w) (hf : FRel g l fr a)
include hgl s hf

theorem op_unOp {op : UnOp} {t : TypeId} {x : Operand} (ho : o.op = .unOp op t x) {C : FuncId → List AV → H → (AV → H → Prop) → Prop} (hk : aop cx C o fr h K) : Step cx o a w (Done K h0 w0 g0 g l fr.loc) := by
  unfold aop at hk
  simp only [ho] at hk
  obtain ⟨av, hav, hk⟩ := slotV_elim hk
  have hx := hf.evV cx hgl _ _ hav
  unfold unP at hk
  generalize hu : a.eval x = u at hx
  split at hk
  · cases hx
    exact .pureV (by simp [cls, ho]) (fun u => by simp [execOp, ho, hu, Op.unary, Op.intArith, ar]) (.pure s hk (.int _ _))
  · cases hx
    exact .pureV (by simp [cls, ho]) (fun u => by simp [execOp, ho, hu, Op.unary, Op.intBits]; rfl) (.pure s hk (.int _ _))
  · cases hx
    exact .pureV (by simp [cls, ho]) (fun u => by simp [execOp, ho, hu, Op.unary]) (.pure s hk (.bool _))
  · exact hk.elim

omit hgl hf in
theorem op_makeMap {t : TypeId} (ho : o.op = .makeMap t none) {C : FuncId → List AV → H → (AV → H → Prop) → Prop} (hk : aop cx C o fr h K) : Step cx o a w (Done K h0 w0 g0 g l fr.loc) := by
  unfold aop at hk
  simp only [ho] at hk
  have hr := s.rel.free_new
  refine .growV (by simp [cls, ho]) (w' := w.alloc (.map #[] 0)) (v := .map (some w.heap.size)) ?_ (.alloc _ _) (.grown (hk w.heap.size hr) (s.alloc (o := .map [] 0) ⟨rfl, .nil⟩) (.refl g) (.map _))
  simp [execOp, ho, Instr.makeMap]
  done

omit s in
theorem evs_vr {t : TypeId} : ∀ {xs : List Operand} {vs : List AV}, xs.map (fr.ev cx t) = vs.map .v → VRs g vs (xs.map a.eval)
  | [], [], _ => .nil
  | [], _ :: _, h => by simp at h
  | _ :: _, [], h => by simp at h
  | x :: xs, v :: vs, h => by
    simp only [List.map_cons, List.cons.injEq] at h
    exact .cons (hf.evV cx hgl _ _ h.1) (evs_vr h.2)

theorem op_makeFunc {f : FuncId} {x y : Array Operand} (ho : o.op = .makeFunc (.func f) x y) {C : FuncId → List AV → H → (AV → H → Prop) → Prop} (hk : aop cx C o fr h K) : Step cx o a w (Done K h0 w0 g0 g l fr.loc) := by
  unfold aop at hk
  simp only [ho] at hk
  obtain ⟨as, h1, hk⟩ := slots_elim hk
  obtain ⟨bs, h2, hk⟩ := slots_elim hk
  refine .pureV (by simp [cls, ho]) (v := .func (.func f) (x.map a.eval) (y.map a.eval)) (fun u => by simp [execOp, ho, Instr.makeFunc]) (.pure s hk ?_)
  have h1 := evs_vr hgl hf h1
  have h2 := evs_vr hgl hf h2
  have e : ∀ z : Array Operand, z.map a.eval = (z.toList.map a.eval).toArray := fun z => by cases z; simp
  rw [e, e]
  exact VR.fn f as bs _ _ h1 h2

include hty

theorem op_convert {st dt : TypeId} {x : Operand} (ho : o.op = .convert st dt x) {C : FuncId → List AV → H → (AV → H → Prop) → Prop} (hk : aop cx C o fr h K) : Step cx o a w (Done K h0 w0 g0 g l fr.loc) := by
  unfold aop at hk
  simp only [ho] at hk
  obtain ⟨av, hav, hk⟩ := slotV_elim hk
  have hx := hf.evV cx hgl _ _ hav
  have hS := (hty st).d
  have hD := (hty dt).d
  unfold convP at hk
  have exe : ∀ r w w', (convert st dt (a.eval x)).run cx.P w = .ok r w' → (execOp a.eval o).run cx.P w = .ok (.value r) w' := by
    intro r w w' hr
    simp [execOp, ho, hr]
  generalize a.eval x = u at hx exe
  split at hk
  · rename_i ks kd e1 e2
    rw [e1] at hS; rw [e2] at hD
    cases hx <;> simp only at hk
    exact .pureV (by simp [cls, ho, e1, e2]) (fun u => exe _ u u (by simp [convert, run_under hS, run_under hD, Conv.intToInt])) (.pure s hk (.int _ _))
  · rename_i e1 e2
    rw [e1] at hS; rw [e2] at hD
    cases hx <;> simp only at hk
    exact .pureV (by simp [cls, ho, e1, e2]) (fun u => exe _ u u (by simp [convert, run_under hS, run_under hD])) (.pure s hk (.str _))
  · rename_i e e1 e2
    rw [e1] at hS; rw [e2] at hD
    have hE := (hty e).d
    cases hde : (cx.ti e).d <;> rw [hde] at hk hE <;> simp only at hk
    rename_i ke
    cases ke <;> simp only at hk
    have hone : (cx.ti e).size = 1 := (hty e).one (by simp [TI.agg, hde]) (by rw [hde]; rfl)
    obtain ⟨ys, vs, ⟨hb, hk⟩, hvr, _, hx⟩ := rdP_cells (P := cx.P) s.rel (hty e) (by rw [hde]; rfl) hx hk
    obtain ⟨f1, f2⟩ := bytes_inv (g := g) hb
    rw [f1] at hvr
    have hvs := f2 vs hvr
    rcases hx with ⟨rfl, rfl⟩ | ⟨q, rfl, rfl⟩ | ⟨b, off, cap, rfl, hc⟩
    · exact .wildV (by simp [cls, ho, e1]) (exe _ w w (run_convert_bytes_nil w st e hS hE 0 0 dt hD)) (.pure s hk (.str []))
    · refine .wildV (by simp [cls, ho, e1]) (exe (.string ⟨q.toArray⟩) w w ?_) (.pure s hk (by rw [strOf_ofStr]; exact .str q))
      simp [convert, run_under hS, run_under hD]
    · have hl : (strOf ys).length = ys.length := by simp [strOf]
      have := run_convert_bytes_back (P := cx.P) w st dt e ⟨b, off, none⟩ cap (strOf ys) hS hE hD (fun j hj => by
        rw [Addr.add_lit]
        refine hc j _ ?_
        rw [hvs]
        simp [List.getElem?_eq_getElem hj])
      rw [hl] at this
      exact .wildV (by simp [cls, ho, e1]) (exe _ w w this) (.pure s hk (.str _))
  · rename_i e e1 e2
    rw [e1] at hS; rw [e2] at hD
    have hE := (hty e).d
    cases hde : (cx.ti e).d <;> rw [hde] at hk hE <;> simp only at hk
    rename_i ke
    cases ke <;> simp only at hk
    cases hx <;> simp only at hk
    rename_i q
    obtain ⟨_, hk⟩ := hk
    have hr := run_bytes_of_string (P := cx.P) w st dt e ⟨q.toArray⟩ hS hD hE
    have hsz : (⟨q.toArray⟩ : ByteArray).size = q.length := by simp [ByteArray.size]
    rw [hsz] at hr
    obtain ⟨s', hle, hhas⟩ := s.drew.layf (bytesRow ⟨q.toArray⟩ (grownCap w q.length 0 e)) e ((bytesRow ⟨q.toArray⟩ (grownCap w q.length 0 e)).size, (bytesRow ⟨q.toArray⟩ (grownCap w q.length 0 e)).size + 1) q.length 0
    refine .growV (by simp [cls, ho, e1, e2]) (exe _ _ _ hr) (.drew_alloc _ _) (.grown hk s' hle ?_)
    have hlen : (ofStr q).length = q.length := by simp [ofStr]
    have hcap := grownCap_ge w q.length 0 e
    have := VR.lst (g := g.lay w.heap.size q.length 0 (bytesRow ⟨q.toArray⟩ (grownCap w q.length 0 e))) .any 1 (ofStr q) (q.map fun c => .int .u8 c.toNat) w.heap.size 0 (grownCap w q.length 0 e)
      (by rw [ofStr_flat]; exact ofStr_vr q) (by intro y hy; simp [ofStr] at hy; obtain ⟨c, _, rfl⟩ := hy; rfl)
      (hhas _ fun j v hj => by
        have hlt : j < q.length := by have := (List.getElem?_eq_some_iff.1 hj).1; simpa using this
        refine ⟨hlt, ?_⟩
        unfold bytesRow
        rw [Array.getElem?_append_left (by simpa using hlt)]
        simpa using hj) trivial (by rw [hlen]; exact hcap)
    rw [hlen] at this
    exact this
  · exact hk.elim

end
end Go.AM

namespace Go.AM
open Go

section
variable {cx : Cx} {o : Oper} {fr : Fr} {h0 h : H} {w0 w : World} {g0 g : Gh} {l : List Nat} {a : Act} {K : Slot → List Box → H → Prop}

theorem OI.of {g : Gh} {s : Option Slot} {d n : Int} (h : s = none ∧ n = d ∨ ∃ k, s = some (.v (.int k n))) {ov : Option Value}
    (hv : (s = none → ov = none) ∧ ∀ x, s = some (.v x) → ∃ v, ov = some v ∧ VR g x v) : OI ov d n := by
  rcases h with ⟨h1, h2⟩ | ⟨k, h1⟩
  · exact .inl ⟨hv.1 h1, h2⟩
  · obtain ⟨v, h2, h3⟩ := hv.2 _ h1
    cases h3
    exact .inr ⟨k, h2⟩

theorem hiOK_elim {hi mx : Option Slot} {X : Prop} (h : hiOK hi mx X) : X ∧ (mx ≠ none → hi ≠ none) := by
  unfold hiOK at h
  split at h
  · exact h.elim
  · rename_i hne
    refine ⟨h, fun h1 h2 => ?_⟩
    subst h2
    cases mx with
    | none => exact h1 rfl
    | some m => exact hne _ rfl rfl

variable (hty : TyOK cx) (hgl : GlOK cx.gl g) (s : SI h0 w0 g0 g h l fr.loc w) (hf : FRel g l fr a)
include hgl s hf

omit s in
theorem optEv_rel (x : Option Operand) : (optEv fr cx x = none → x.map a.eval = none) ∧ ∀ y, optEv fr cx x = some (.v y) → ∃ v, x.map a.eval = some v ∧ VR g y v := by
  cases x with
  | none => exact ⟨fun _ => rfl, fun y h => by cases h⟩
  | some x =>
    refine ⟨fun h => (by cases h), fun y h => ⟨a.eval x, rfl, ?_⟩⟩
    exact hf.evV cx hgl _ _ (by simpa [optEv] using h)

omit s hgl hf in
theorem optEv_none {x : Option Operand} : optEv fr cx x = none ↔ x = none := by
  cases x <;> simp [optEv]

omit hgl s hf in
/-- A slice of an array within a row that stays as it is. -/
theorem elp_slice {sz : Nat} {xs : List AV} {i off n : Nat} {vs : List Value} {b o : Nat} {z : AV} {x y m : Int} (hvs : VRs g (xs.flatMap AV.cells) vs) (hsz : ∀ x ∈ xs, x.cells.length = sz) (hh : g.has b o vs)
    (hz : xs[i]? = some z) (hl : off + n ≤ z.cells.length) (hone : ∀ c ∈ (z.cells.drop off).take n, c.one = true) (hb : 0 ≤ x ∧ x ≤ y ∧ y ≤ m ∧ m ≤ n) :
    VR g (.lst .any 1 ((((z.cells.drop off).take n).take y.toNat).drop x.toNat)) (.slice (some (if m.toNat = x.toNat then (⟨b, o + i * sz + off, none⟩ : Addr) else (⟨b, o + i * sz + off, none⟩ : Addr).add (x.toNat * 1))) (y.toNat - x.toNat) (m.toNat - x.toNat)) := by
  obtain ⟨b1, b2, b3, b4⟩ := hb
  have hcell : ∀ (j : Nat) (c : AV), ((z.cells.drop off).take n)[j]? = some c → ∃ v, vs[i * sz + off + j]? = some v ∧ VR g c v := by
    intro j c hj
    have h1 := flat_get hsz hz (getElem?_take_drop hj).2
    obtain ⟨v, h2, h3⟩ := hvs.get h1
    exact ⟨v, by rw [← h2]; congr 1; omega, h3⟩
  have hlen : ((z.cells.drop off).take n).length = n := by simp; omega
  generalize (z.cells.drop off).take n = cs at hcell hlen hone
  have hys : ((cs.take y.toNat).drop x.toNat).length = y.toNat - x.toNat := by simp; omega
  have hget : ∀ (j : Nat) (c : AV), ((cs.take y.toNat).drop x.toNat)[j]? = some c → ∃ v, vs[i * sz + off + (x.toNat + j)]? = some v ∧ VR g c v := by
    intro j c hj
    rw [List.getElem?_drop, List.getElem?_take] at hj
    split at hj
    · exact hcell _ _ hj
    · cases hj
  have hyone : ∀ c ∈ (cs.take y.toNat).drop x.toNat, c.one = true := fun c hc => hone c (List.mem_of_mem_take (List.mem_of_mem_drop hc))
  by_cases hmx : m.toNat = x.toNat
  · have e0 : (cs.take y.toNat).drop x.toNat = [] := List.eq_nil_of_length_eq_zero (by omega)
    rw [if_pos hmx, e0, show y.toNat - x.toNat = 0 by omega]
    have := VR.lst (g := g) .any 1 [] [] b (o + i * sz + off) (m.toNat - x.toNat) .nil (by simp) (fun j v hj => by simp at hj) trivial (by simp)
    simpa using this
  · rw [if_neg hmx]
    generalize (cs.take y.toNat).drop x.toNat = ys at hys hget hyone
    have hflat : ys.flatMap AV.cells = ys := by
      have key : ∀ (l : List AV), (∀ c ∈ l, c.one = true) → l.flatMap AV.cells = l := by
        intro l
        induction l with
        | nil => intro _; rfl
        | cons c l ih =>
          intro hc
          rw [List.flatMap_cons, ih fun d hd => hc d (by simp [hd])]
          have h1 := hc c (by simp)
          cases c <;> first | rfl | (simp [AV.one] at h1)
      exact key ys hyone
    have hsize1 : ∀ c ∈ ys, c.cells.length = 1 := fun c hc => by
      have h1 := hyone c hc
      cases c <;> first | rfl | (simp [AV.one] at h1)
    have hws : ∃ ws : List Value, VRs g ys ws ∧ ∀ j v, ws[j]? = some v → vs[i * sz + off + (x.toNat + j)]? = some v := by
      have key : ∀ (l : List AV) (k : Nat), (∀ (j : Nat) (c : AV), l[j]? = some c → ∃ v, vs[k + j]? = some v ∧ VR g c v) → ∃ ws : List Value, VRs g l ws ∧ ∀ j v, ws[j]? = some v → vs[k + j]? = some v := by
        intro l
        induction l with
        | nil => intro k _; exact ⟨[], .nil, fun j v h => by simp at h⟩
        | cons c l ih =>
          intro k hc
          obtain ⟨v0, h1, h2⟩ := hc 0 c (by simp)
          obtain ⟨ws, h3, h4⟩ := ih (k + 1) fun j c' hj => by
            obtain ⟨v, h5, h6⟩ := hc (j + 1) c' (by simpa using hj)
            exact ⟨v, by rw [show k + 1 + j = k + (j + 1) from by omega]; exact h5, h6⟩
          refine ⟨v0 :: ws, .cons h2 h3, fun j v hj => ?_⟩
          cases j with
          | zero => simp at hj; subst hj; exact h1
          | succ j =>
            simp at hj
            have := h4 j v hj
            rw [show k + (j + 1) = k + 1 + j from by omega]; exact this
      obtain ⟨ws, h1, h2⟩ := key ys (i * sz + off + x.toNat) fun j c hj => by
        obtain ⟨v, h3, h4⟩ := hget j c hj
        exact ⟨v, by rw [← h3]; congr 1; omega, h4⟩
      exact ⟨ws, h1, fun j v hj => by rw [← h2 j v hj]; congr 1; omega⟩
    obtain ⟨ws, w1, w2⟩ := hws
    have := VR.lst (g := g) .any 1 ys ws b (o + i * sz + off + x.toNat * 1) (m.toNat - x.toNat) (by rw [hflat]; exact w1) hsize1 (fun j v hj => by
      have h5 := hh _ _ (w2 j v hj)
      rw [show o + i * sz + off + x.toNat * 1 + j = o + (i * sz + off + (x.toNat + j)) from by omega]; exact h5) trivial (by omega)
    rw [hys] at this
    simpa [Addr.add_lit] using this

omit hgl s hf in
theorem sl_vr {sz : Nat} {b off cap : Nat} {x y m : Int} (hb : 0 ≤ x ∧ x ≤ y ∧ y ≤ m ∧ m ≤ cap) :
    VR g (.sl b (if m = x then off else off + x.toNat * sz) (y - x).toNat (m - x).toNat)
      (.slice (some (if m.toNat = x.toNat then ⟨b, off, none⟩ else (⟨b, off, none⟩ : Addr).add (x.toNat * sz))) (y.toNat - x.toNat) (m.toNat - x.toNat)) := by
  have e : (m.toNat = x.toNat) ↔ m = x := by omega
  have e1 : (y - x).toNat = y.toNat - x.toNat := by omega
  have e2 : (m - x).toNat = m.toNat - x.toNat := by omega
  rw [e1, e2]
  by_cases hm : m = x
  · simp only [hm, if_true]; exact .sl _ _ _ _
  · simp only [hm, e, if_false, Addr.add_lit]; exact .sl _ _ _ _

include hty

theorem op_slice {T : TypeId} {x : Operand} {lo hi mx : Option Operand} (ho : o.op = .slice T x lo hi mx) {C : FuncId → List AV → H → (AV → H → Prop) → Prop} (hk : aop cx C o fr h K) : Step cx o a w (Done K h0 w0 g0 g l fr.loc) := by
  unfold aop at hk
  simp only [ho] at hk
  have hT := (hty T).d
  have r1 := optEv_rel (cx := cx) hgl hf lo
  have r2 := optEv_rel (cx := cx) hgl hf hi
  have r3 := optEv_rel (cx := cx) hgl hf mx
  have n3 : (optEv fr cx mx ≠ none → optEv fr cx hi ≠ none) → (mx.map a.eval ≠ none → hi.map a.eval ≠ none) := by
    intro h1 h2 h3
    refine h1 ?_ ?_
    · intro h4; exact h2 (r3.1 h4)
    · cases hi with
      | none => rfl
      | some z => simp at h3
  have exe : ∀ r w, (Instr.sliceAt T (a.eval x) (lo.map a.eval) (hi.map a.eval) (mx.map a.eval)).run cx.P w = .ok r w → (execOp a.eval o).run cx.P w = .ok (.value r) w := by
    intro r w hr
    simp [execOp, ho, hr]
  cases hd : (cx.ti T).d <;> rw [hd] at hk hT <;> simp only [TDok] at hT <;> first
    | exact hk.elim
    | skip
  · -- a string
    simp only at hk
    obtain ⟨v, hv, hk⟩ := slotV_elim hk
    have hx := hf.evV cx hgl _ _ hv
    generalize a.eval x = u at hx exe
    cases hx <;> simp only [strP] at hk
    rename_i q
    cases hm : optEv fr cx mx with
    | some z => rw [hm] at hk; exact hk.elim
    | none =>
      rw [hm] at hk
      obtain ⟨y, k1, hy⟩ := optI_elim hk
      clear hk
      obtain rfl := optEv_none.1 hm
      obtain ⟨x', k2, hx⟩ := optI_elim k1
      obtain ⟨⟨b1, b2, b3⟩, hk⟩ := k2
      have hsz : (⟨q.toArray⟩ : ByteArray).size = q.length := by simp [ByteArray.size]
      have hr := fun w => run_sliceBounds (P := cx.P) (w := w) (isSlice := false) (len := q.length) (cap := q.length) (OI.of hy r2) (OI.of hx r1) (.inl ⟨rfl, rfl⟩ : OI none _ (q.length : Int)) (fun h => absurd rfl h) ⟨b1, b2, b3, Int.le_refl _⟩
      refine .pureV (by simp [cls, ho]) (fun u => exe (.string ((⟨q.toArray⟩ : ByteArray).extract x'.toNat y.toNat)) u ?_) (.pure s hk ?_)
      · simp [Instr.sliceAt, run_under hT, Instr.slice, hsz, hr]
      · have e : (⟨q.toArray⟩ : ByteArray).extract x'.toNat y.toNat = ⟨((q.take y.toNat).drop x'.toNat).toArray⟩ := by
          apply ByteArray.ext
          simp [ByteArray.data_extract, List.drop_take]
        rw [e]; exact .str _
  · -- a slice
    rename_i e
    simp only at hk
    obtain ⟨hkn, hk⟩ := knownP_elim hk
    obtain ⟨v, hv, hk⟩ := slotV_elim hk
    have hx := hf.evV cx hgl _ _ hv
    have hsize := fun w => run_size (P := cx.P) (w := w) (hty e) hkn
    generalize a.eval x = u at hx exe
    have exe2 : ∀ (base : Option Addr) (len cap : Nat) (x' y m : Int), u = .slice base len cap → OI (hi.map a.eval) len y → OI (lo.map a.eval) 0 x' → OI (mx.map a.eval) cap m → (mx.map a.eval ≠ none → hi.map a.eval ≠ none) → (0 ≤ x' ∧ x' ≤ y ∧ y ≤ m ∧ m ≤ cap) →
        ∀ w, (execOp a.eval o).run cx.P w = .ok (.value (.slice (if m.toNat = x'.toNat then base else base.map (·.add (x'.toNat * (cx.ti e).size))) (y.toNat - x'.toNat) (m.toNat - x'.toNat))) w := by
      rintro base len cap x' y m rfl h1 h2 h3 h4 h5 w
      have hr := run_sliceBounds (P := cx.P) (w := w) (isSlice := true) h1 h2 h3 h4 h5
      refine exe _ w ?_
      simp only [Instr.sliceAt, run_under hT, Instr.slice, hr, hsize, Sem.run_bind, Sem.run_pure, Result.andThen_ok]
    cases hx <;> simp only [sliceP] at hk
    · -- a nil slice
      rename_i tg sz hn
      obtain ⟨⟨hsze, k1⟩, hhi⟩ := hiOK_elim hk
      clear hk
      subst hsze
      obtain ⟨y, hk, hy⟩ := optI_elim k1
      obtain ⟨x', hk, hx⟩ := optI_elim hk
      obtain ⟨m, hk, hm⟩ := optI_elim hk
      obtain ⟨⟨b1, b2, b3, b4⟩, hk⟩ := hk
      simp only [List.length_nil, Int.ofNat_zero] at hy hm b4
      have hmx : OI (mx.map a.eval) ((0 : Nat) : Int) m := OI.of hm r3
      have hr := exe2 none 0 0 x' y m rfl (OI.of hy r2) (OI.of hx r1) hmx (n3 hhi) ⟨b1, b2, b3, b4⟩
      obtain rfl : x' = 0 := by omega
      obtain rfl : y = 0 := by omega
      obtain rfl : m = 0 := by omega
      simp only [Int.toNat_zero, Nat.sub_self, if_true] at hr
      cases hmx' : optEv fr cx mx with
      | some q => rw [hmx'] at hk; simp only at hk; exact .pureV (by simp [cls, ho]) hr (.pure s hk.2 (by show VR g _ _; simpa using VR.lstn .full (cx.ti e).size trivial))
      | none =>
        rw [hmx'] at hk
        cases hhi' : optEv fr cx hi with
        | some q => rw [hhi'] at hk; simp only at hk; exact .pureV (by simp [cls, ho]) hr (.pure s hk (by show VR g _ _; simpa using VR.lstn .any (cx.ti e).size trivial))
        | none =>
          rw [hhi'] at hk; simp only at hk
          refine .pureV (by simp [cls, ho]) hr (.pure s hk ?_)
          have : (cutTag (optEv fr cx lo) tg).nilok := by
            unfold cutTag
            split
            · trivial
            · exact hn
          show VR g _ _
          simpa using VR.lstn (cutTag (optEv fr cx lo) tg) (cx.ti e).size this
    · rename_i tg sz xs vs b off cap hvs hsz hh htok hcl
      obtain ⟨⟨hsze, k1⟩, hhi⟩ := hiOK_elim hk
      clear hk
      subst hsze
      obtain ⟨y, hk, hy⟩ := optI_elim k1
      obtain ⟨x', hk, hx⟩ := optI_elim hk
      obtain ⟨m, hk, hm⟩ := optI_elim hk
      obtain ⟨⟨b1, b2, b3, b4⟩, hk⟩ := hk
      have hlv : vs.length = xs.length * (cx.ti e).size := by rw [← hvs.length]; exact flat_len hsz
      -- the cells of the part
      have hpart : ∀ (n : Nat), n ≤ xs.length → x'.toNat ≤ n → VRs g (((xs.take n).drop x'.toNat).flatMap AV.cells) ((vs.take (n * (cx.ti e).size)).drop (x'.toNat * (cx.ti e).size)) ∧
          (∀ z ∈ (xs.take n).drop x'.toNat, z.cells.length = (cx.ti e).size) ∧ g.has b (off + x'.toNat * (cx.ti e).size) ((vs.take (n * (cx.ti e).size)).drop (x'.toNat * (cx.ti e).size)) := by
        intro n hn hxn
        have hflat : ∀ (zs : List AV) (k : Nat), (∀ z ∈ zs, z.cells.length = (cx.ti e).size) → (zs.drop k).flatMap AV.cells = (zs.flatMap AV.cells).drop (k * (cx.ti e).size) ∧ (zs.take k).flatMap AV.cells = (zs.flatMap AV.cells).take (k * (cx.ti e).size) := by
          intro zs
          induction zs with
          | nil => intro k _; simp
          | cons z zs ih =>
            intro k hz
            cases k with
            | zero => simp
            | succ k =>
              obtain ⟨i1, i2⟩ := ih k fun y hy => hz y (by simp [hy])
              have hz0 := hz z (by simp)
              have e1 : (k + 1) * (cx.ti e).size = z.cells.length + k * (cx.ti e).size := by rw [hz0, Nat.add_mul]; omega
              refine ⟨?_, ?_⟩
              · rw [List.drop_succ_cons, i1, List.flatMap_cons, e1, ← List.drop_drop, List.drop_left]
              · rw [List.take_succ_cons, List.flatMap_cons, List.flatMap_cons, i2, e1, List.take_length_add_append]
        refine ⟨?_, fun z hz => hsz z (List.mem_of_mem_take (List.mem_of_mem_drop hz)), ?_⟩
        · rw [(hflat _ _ fun z hz => hsz z (List.mem_of_mem_take hz)).1, (hflat xs n hsz).2]
          exact (hvs.take _).drop _
        · intro j v hj
          rw [List.getElem?_drop, List.getElem?_take] at hj
          split at hj
          · have := hh _ _ hj
            rw [Nat.add_assoc]; exact this
          · cases hj
      cases hmx' : optEv fr cx mx with
      | some q =>
        rw [hmx'] at hk; simp only at hk
        obtain ⟨rfl, hk⟩ := hk
        have hmo : OI (mx.map a.eval) cap m := by
          rcases hm with ⟨h1, _⟩ | ⟨k, h1⟩
          · rw [hmx'] at h1; cases h1
          · obtain ⟨v, h2, h3⟩ := r3.2 _ h1
            cases h3
            exact .inr ⟨k, h2⟩
        have hr := exe2 _ _ cap x' m m rfl (OI.of hy r2) (OI.of hx r1) hmo (n3 hhi) ⟨b1, b2, b3, by omega⟩
        refine .pureV (by simp [cls, ho]) hr (.pure s hk ?_)
        show VR g _ _
        obtain ⟨p1, p2, p3⟩ := hpart m.toNat (by omega) (by omega)
        have hl : ((xs.take m.toNat).drop x'.toNat).length = m.toNat - x'.toNat := by simp; omega
        by_cases hmx : m.toNat = x'.toNat
        · have e0 : (xs.take m.toNat).drop x'.toNat = [] := List.eq_nil_of_length_eq_zero (by omega)
          rw [if_pos hmx, e0, show m.toNat - x'.toNat = 0 by omega]
          have := VR.lst (g := g) .full (cx.ti e).size [] [] b off 0 .nil (by simp) (fun j v hj => by simp at hj) rfl (Nat.le_refl _)
          simpa using this
        · rw [if_neg hmx]
          have := VR.lst (g := g) .full (cx.ti e).size _ _ b (off + x'.toNat * (cx.ti e).size) (m.toNat - x'.toNat) p1 p2 p3 hl.symm (by omega)
          rw [hl] at this
          simpa [Addr.add_lit] using this
      | none =>
        rw [hmx'] at hk
        have hmx0 := optEv_none.1 hmx'
        subst hmx0
        have hmo : OI ((none : Option Operand).map a.eval) cap (cap : Int) := .inl ⟨rfl, rfl⟩
        obtain rfl : m = xs.length := by
          rcases hm with ⟨_, h2⟩ | ⟨k, h1⟩
          · exact h2
          · cases h1
        have hr := exe2 _ _ cap x' y cap rfl (OI.of hy r2) (OI.of hx r1) hmo (fun h => absurd rfl h) ⟨b1, b2, by omega, by omega⟩
        obtain ⟨p1, p2, p3⟩ := hpart y.toNat (by omega) (by omega)
        have hl : ((xs.take y.toNat).drop x'.toNat).length = y.toNat - x'.toNat := by simp; omega
        have hany : ∀ t' : Tag, (x'.toNat ≠ cap → t'.ok g b (off + x'.toNat * (cx.ti e).size) (y.toNat - x'.toNat) (cap - x'.toNat) (cx.ti e).size) → (x'.toNat = cap → t'.ok g b off 0 0 (cx.ti e).size) →
            VR g (.lst t' (cx.ti e).size ((xs.take y.toNat).drop x'.toNat)) (.slice (if ((cap : Int)).toNat = x'.toNat then some ⟨b, off, none⟩ else (some (⟨b, off, none⟩ : Addr)).map (·.add (x'.toNat * (cx.ti e).size))) (y.toNat - x'.toNat) ((cap : Int).toNat - x'.toNat)) := by
          intro t' ht1 ht2
          simp only [Int.toNat_natCast]
          by_cases hmx : cap = x'.toNat
          · have e0 : (xs.take y.toNat).drop x'.toNat = [] := List.eq_nil_of_length_eq_zero (by omega)
            rw [if_pos hmx, e0, show y.toNat - x'.toNat = 0 by omega, show cap - x'.toNat = 0 by omega]
            have := VR.lst (g := g) t' (cx.ti e).size [] [] b off 0 .nil (by simp) (fun j v hj => by simp at hj) (ht2 hmx.symm) (Nat.le_refl _)
            simpa using this
          · rw [if_neg hmx]
            have := VR.lst (g := g) t' (cx.ti e).size _ _ b (off + x'.toNat * (cx.ti e).size) (cap - x'.toNat) p1 p2 p3 (by rw [hl]; exact ht1 fun h => hmx h.symm) (by omega)
            rw [hl] at this
            simpa [Addr.add_lit] using this
        cases hhi' : optEv fr cx hi with
        | some q =>
          rw [hhi'] at hk; simp only at hk
          exact .pureV (by simp [cls, ho]) hr (.pure s hk (hany .any (fun _ => trivial) fun _ => trivial))
        | none =>
          rw [hhi'] at hk; simp only at hk
          have hye : y = xs.length := by
            rcases hy with ⟨_, h2⟩ | ⟨k, h1⟩
            · exact h2
            · rw [hhi'] at h1; cases h1
          refine .pureV (by simp [cls, ho]) hr (.pure s hk ?_)
          have := hany (cutTag (optEv fr cx lo) tg) ?_ ?_
          · have e0 : xs.take y.toNat = xs := by rw [hye]; simp
            rw [e0] at this
            exact this
          · intro hne
            cases tg with
            | any => unfold cutTag; split <;> trivial
            | full =>
              obtain rfl : cap = xs.length := htok
              unfold cutTag
              split
              · trivial
              · show _ = _; omega
            | own b' e' =>
              cases hlo : optEv fr cx lo with
              | some z => exact trivial
              | none =>
                obtain ⟨h1, h2, h3⟩ := htok
                obtain rfl : x' = 0 := by
                  rcases hx with ⟨_, h5⟩ | ⟨k, h5⟩
                  · exact h5
                  · rw [hlo] at h5; cases h5
                exact ⟨h1, by simpa [hye] using h2, by simpa using h3⟩
          · intro he
            cases tg with
            | any => unfold cutTag; split <;> trivial
            | full => unfold cutTag; split <;> first | trivial | rfl
            | own b' e' =>
              cases hlo : optEv fr cx lo with
              | some z => exact trivial
              | none =>
                obtain ⟨h1, h2, h3⟩ := htok
                obtain rfl : x' = 0 := by
                  rcases hx with ⟨_, h5⟩ | ⟨k, h5⟩
                  · exact h5
                  · rw [hlo] at h5; cases h5
                have hc0 : cap = 0 := by simpa using he.symm
                have hx0 : xs.length = 0 := by omega
                subst hc0
                exact ⟨h1, by simpa [hx0] using h2, by simpa using h3⟩
    · rename_i b off len cap
      obtain ⟨hk, hhi⟩ := hiOK_elim hk
      obtain ⟨y, hk, hy⟩ := optI_elim hk
      obtain ⟨x', hk, hx⟩ := optI_elim hk
      obtain ⟨m, hk, hm⟩ := optI_elim hk
      obtain ⟨hb, hk⟩ := hk
      have hr := exe2 _ _ cap x' y m rfl (OI.of hy r2) (OI.of hx r1) (OI.of hm r3) (n3 hhi) hb
      refine .pureV (by simp [cls, ho]) hr (.pure s hk ?_)
      have := sl_vr (g := g) (sz := (cx.ti e).size) (b := b) (off := off) hb
      by_cases hmx : m.toNat = x'.toNat
      · simp only [hmx, if_true] at this ⊢; exact this
      · simp only [hmx, if_false] at this ⊢; exact this
  · rename_i n e
    simp only at hk
    obtain ⟨hkn, hk⟩ := knownP_elim hk
    obtain ⟨v, hv, hk⟩ := slotV_elim hk
    have hx := hf.evV cx hgl _ _ hv
    have hsize := fun w => run_size (P := cx.P) (w := w) (hty e) hkn
    generalize a.eval x = u at hx exe
    cases hx <;> simp only [arrP] at hk
    case elp s1 xs i off vs b o1 hvs hsz hh =>
      split at hk
      · rename_i z hz
        obtain ⟨hk, _⟩ := cellsP_elim hk
        obtain ⟨hl, hk⟩ := takeP_elim hk
        obtain ⟨⟨⟨hs1, hone⟩, hk⟩, hhi⟩ := hiOK_elim hk
        obtain ⟨y, hk, hy⟩ := optI_elim hk
        obtain ⟨x', hk, hx⟩ := optI_elim hk
        obtain ⟨m, hk, hm⟩ := optI_elim hk
        obtain ⟨hb, hk⟩ := hk
        have hr := fun w => run_sliceBounds (P := cx.P) (w := w) (isSlice := false) (OI.of hy r2) (OI.of hx r1) (OI.of hm r3) (n3 hhi) hb
        refine .pureV (by simp [cls, ho]) (fun u => exe _ u ?_) (.pure s hk (elp_slice hvs hsz hh hz hl hone hb))
        simp only [Instr.sliceAt, run_under hT, Instr.sureAddr, hr, hsize, Sem.run_bind, Sem.run_pure, Result.andThen_ok, hs1]
      · exact hk.elim
    rename_i b off
    obtain ⟨hk, hhi⟩ := hiOK_elim hk
    obtain ⟨y, hk, hy⟩ := optI_elim hk
    obtain ⟨x', hk, hx⟩ := optI_elim hk
    obtain ⟨m, hk, hm⟩ := optI_elim hk
    obtain ⟨hb, hk⟩ := hk
    have hr := fun w => run_sliceBounds (P := cx.P) (w := w) (isSlice := false) (OI.of hy r2) (OI.of hx r1) (OI.of hm r3) (n3 hhi) hb
    refine .pureV (by simp [cls, ho]) (fun u => exe _ u ?_) (.pure s hk (sl_vr (g := g) (sz := (cx.ti e).size) (b := b) (off := off) hb))
    simp only [Instr.sliceAt, run_under hT, Instr.sureAddr, hr, hsize, Sem.run_bind, Sem.run_pure, Result.andThen_ok]
end
end Go.AM

namespace Go.AM
open Go

section
variable {cx : Cx} {o : Oper} {fr : Fr} {h0 h : H} {w0 w : World} {g0 g : Gh} {l : List Nat} {a : Act} {K : Slot → List Box → H → Prop}

theorem flat_of {f : List AV → AV} : ∀ {css : List (List AV)}, (∀ cs ∈ css, (f cs).cells = cs) → (css.map f).flatMap AV.cells = css.flatten
  | [], _ => rfl
  | c :: css, h => by
    rw [List.map_cons, List.flatMap_cons, List.flatten_cons, h c (by simp), flat_of fun d hd => h d (by simp [hd])]

theorem flatten_len {sz : Nat} : ∀ {css : List (List AV)}, (∀ cs ∈ css, cs.length = sz) → css.flatten.length = css.length * sz
  | [], _ => by simp
  | c :: css, h => by
    have := flatten_len (css := css) fun d hd => h d (by simp [hd])
    have hc := h c (by simp)
    rw [List.flatten_cons, List.length_append, this, hc, List.length_cons, Nat.add_mul]; omega

/-- A new variable: in the heap, or the call's own. -/
theorem new_var (s : SI h0 w0 g0 g h l fr.loc w) {T : TypeId} {cs : List AV} {vs : Array Value} (hv : VRs g cs vs.toList) {d : Nat}
    (hk : match cx.loc.contains d with
      | true => K (.lp fr.loc.length 0) (fr.loc ++ [(T, cs)]) h
      | false => ∀ n, h.free n → K (.v (.ptr (some (n, 0)))) fr.loc (h.put n (.cells T cs))) :
    Done K h0 w0 g0 g l fr.loc (.pointer (some ⟨w.heap.size, 0, none⟩)) (w.alloc (.cells vs T)) := by
  cases hc : cx.loc.contains d with
  | true =>
    rw [hc] at hk
    refine ⟨g, l ++ [w.heap.size], _, _, h, .append _ _, hk, s.allocL hv, .refl g, fun i b hi => ?_, ⟨w.heap.size, ?_, rfl⟩⟩
    · rw [List.getElem?_append_left (List.getElem?_eq_some_iff.1 hi).1]; exact hi
    · rw [← s.len]; simp
  | false =>
    rw [hc] at hk
    exact .grown (hk _ s.rel.free_new) (s.alloc (o := .cells T cs) ⟨rfl, hv, rfl⟩) (.refl g) (.ptr _ _)

theorem run_zero {P : Program} {T : TypeId} {x : TypeInfo} {z : Value} (h1 : P.info? T = some x) (h2 : x.zero = some z) : (zeroValue T).run P w = .ok z w := by
  simp [zeroValue, typeInfo, h1, h2]

theorem partsP_elim : ∀ {ps : List (TypeId × Slot)} {K : List (List AV) → Prop}, partsP cx ps K → ∃ css, K css ∧ css.length = ps.length ∧
    ∀ (i : Nat) (t : TypeId) (s : Slot) (cs : List AV), ps[i]? = some (t, s) → css[i]? = some cs → (cx.ti t).d.isOther = false ∧ ∃ v, s = .v v ∧
      ((cx.ti t).agg = true ∧ v = .agg cs ∧ cs.length = (cx.ti t).size ∨ (cx.ti t).agg = false ∧ cs = [v] ∧ v.one = true)
  | [], K, h => ⟨[], h, rfl, fun i t s cs h1 => by simp at h1⟩
  | (t, .lp _ _) :: r, K, h => h.elim
  | (t, .v v) :: r, K, h => by
    obtain ⟨hk, h⟩ := knownP_elim h
    obtain ⟨cs, h, hp⟩ := partP_elim h
    obtain ⟨css, h, hl, hall⟩ := partsP_elim h
    refine ⟨cs :: css, h, by simp [hl], fun i t' s cs' h1 h2 => ?_⟩
    cases i with
    | zero =>
      simp only [List.getElem?_cons_zero, Option.some.injEq, Prod.mk.injEq] at h1 h2
      obtain ⟨rfl, rfl⟩ := h1
      subst h2
      exact ⟨hk, v, rfl, hp⟩
    | succ i =>
      simp only [List.getElem?_cons_succ] at h1 h2
      exact hall i t' s cs' h1 h2

/-- Parts, one by one. -/
theorem parts_of {g : Gh} {place : Nat → Option (Nat × Nat)} : ∀ {ps : List (Nat × Value)} {offs : List Nat} {css : List (List AV)}, css.length = ps.length → offs.length = ps.length →
    (∀ (i : Nat) (k : Nat) (v : Value) (cs : List AV) (off : Nat), ps[i]? = some (k, v) → css[i]? = some cs → offs[i]? = some off → place k = some (off, cs.length) ∧ VRs g cs v.cells.toList) →
    Parts g place ps (offs.zip css)
  | [], [], [], _, _, _ => .nil
  | [], _ :: _, _, _, h, _ => by simp at h
  | [], _, _ :: _, h, _, _ => by simp at h
  | _ :: _, [], _, _, h, _ => by simp at h
  | _ :: _, _, [], h, _, _ => by simp at h
  | (k, v) :: ps, off :: offs, cs :: css, h1, h2, h3 => by
    obtain ⟨e1, e2⟩ := h3 0 k v cs off rfl rfl rfl
    exact .cons e1 e2 (parts_of (by simpa using h1) (by simpa using h2) fun i k v cs off a b c => h3 (i + 1) k v cs off (by simpa using a) (by simpa using b) (by simpa using c))

theorem run_places {P : Program} : ∀ (F : List Field), (∀ f ∈ F, ∃ i : TI, TIok P f.type i ∧ i.d.isOther = false) →
    ∃ pl : List (Nat × Nat), (∀ w, (F.mapM fun f => do pure (f.offset, ← sizeOf f.type) : Sem (List (Nat × Nat))).run P w = .ok pl w) ∧ pl.length = F.length ∧
      ∀ (k : Nat) (f : Field) (i : TI), F[k]? = some f → TIok P f.type i → i.d.isOther = false → pl[k]? = some (f.offset, i.size)
  | [], _ => ⟨[], fun _ => rfl, rfl, fun k f i h => by simp at h⟩
  | f :: F, h => by
    obtain ⟨i0, h1, h2⟩ := h f (by simp)
    obtain ⟨pl, h3, h4, h5⟩ := run_places F fun f hf => h f (by simp [hf])
    refine ⟨(f.offset, i0.size) :: pl, ?_, by simp [h4], fun k f' i hk hi hd => ?_⟩
    · intro w; simp only [List.mapM_cons, Sem.run_bind, run_size h1 h2, Result.andThen_ok, Sem.run_pure]
      rw [h3]; rfl
    · cases k with
      | zero =>
        simp at hk
        subst hk
        obtain ⟨x1, a1, a2, _⟩ := h1.info h2
        obtain ⟨x2, b1, b2, _⟩ := hi.info hd
        rw [a1] at b1
        cases b1
        simp [← a2, ← b2]
      | succ k => exact h5 k f' i (by simpa using hk) hi hd

theorem fillA_all {sz : Nat} {K : List AV → Prop} : ∀ (n k : Nat) (css : List (List AV)) (pre : List AV), css.length = n → (∀ cs ∈ css, cs.length = sz) → pre.length = k * sz →
    K (pre ++ css.flatten) → fillA (pre ++ List.replicate (n * sz) .junk) (((List.range' k n).map (· * sz)).zip css) K
  | 0, k, [], pre, _, _, _, h => by simpa [fillA] using h
  | 0, k, _ :: _, pre, h, _, _, _ => by simp at h
  | n + 1, k, [], pre, h, _, _, _ => by simp at h
  | n + 1, k, cs :: css, pre, h1, h2, h3, h => by
    have hcs : cs.length = sz := h2 cs (by simp)
    have e : (n + 1) * sz = sz + n * sz := by rw [Nat.add_mul]; omega
    have hb : Nat.ble (k * sz + cs.length) (pre ++ List.replicate ((n + 1) * sz) AV.junk).length = true := by
      rw [Nat.ble_eq]
      simp only [List.length_append, List.length_replicate, h3, hcs, e]; omega
    simp only [List.range'_succ, List.map_cons, List.zip_cons_cons, fillA]
    rw [hb]
    simp only
    have es : splice (pre ++ List.replicate ((n + 1) * sz) AV.junk) (k * sz) cs = (pre ++ cs) ++ List.replicate (n * sz) .junk := by
      unfold splice
      rw [← h3, List.take_left, List.append_assoc, List.append_assoc]
      congr 1
      congr 1
      rw [hcs, ← List.drop_drop, List.drop_left, List.drop_replicate]
      congr 1
      omega
    rw [es]
    refine fillA_all n (k + 1) css (pre ++ cs) (by simpa using h1) (fun c hc => h2 c (by simp [hc])) ?_ ?_
    · rw [List.length_append, h3, hcs, Nat.add_mul]; omega
    · simpa using h

variable (hty : TyOK cx) (hgl : GlOK cx.gl g) (s : SI h0 w0 g0 g h l fr.loc w) (hf : FRel g l fr a)
include hty s

theorem op_alloc {T : TypeId} (ho : o.op = .alloc T) {C : FuncId → List AV → H → (AV → H → Prop) → Prop} (hk : aop cx C o fr h K) : Step cx o a w (Done K h0 w0 g0 g l fr.loc) := by
  unfold aop at hk
  simp only [ho] at hk
  have exe : ∀ x z, cx.P.info? T = some x → x.zero = some z → (execOp a.eval o).run cx.P w = .ok (.value (.pointer (some ⟨w.heap.size, 0, none⟩))) (w.alloc (.cells z.cells T)) := by
    intro x z h1 h2
    simp [execOp, ho, Instr.alloc, run_zero h1 h2, newVar, newRow]
  have fin : ∀ cs, (cx.ti T).zero.isJunk = false → (∀ z, VR g (cx.ti T).zero z → VRs g cs z.cells.toList) → (match cx.loc.contains (o.dst.getD 0) with
      | true => K (.lp fr.loc.length 0) (fr.loc ++ [(T, cs)]) h
      | false => ∀ n, h.free n → K (.v (.ptr (some (n, 0)))) fr.loc (h.put n (.cells T cs))) → Step cx o a w (Done K h0 w0 g0 g l fr.loc) := by
    intro cs hj hv hk
    obtain ⟨x, z, h1, h2, h3, h4, h5⟩ := (hty T).zero hj
    exact .growV (by simp [cls, ho]) (exe x z h1 h3) (.alloc _ _) (new_var s (hv z (h5 g)) hk)
  cases ha : (cx.ti T).agg with
  | true =>
    rw [ha] at hk
    cases hz : (cx.ti T).zero <;> rw [hz] at hk <;> simp only at hk
    rename_i cs
    refine fin cs (by rw [hz]; rfl) (fun z hv => ?_) hk
    rw [hz] at hv
    cases hv
    assumption
  | false =>
    rw [ha] at hk
    simp only at hk
    obtain ⟨h1, hk⟩ := oneP_elim hk
    refine fin [(cx.ti T).zero] ?_ (fun z hv => ?_) hk
    · cases hz : (cx.ti T).zero <;> rw [hz] at h1 <;> first | rfl | cases h1
    · rw [Value.cells_one (hv.one h1)]; exact .cons hv .nil

include hgl hf

omit hty in
theorem op_box {T : TypeId} {x : Operand} (ho : o.op = .box T x) {C : FuncId → List AV → H → (AV → H → Prop) → Prop} (hk : aop cx C o fr h K) : Step cx o a w (Done K h0 w0 g0 g l fr.loc) := by
  unfold aop at hk
  simp only [ho] at hk
  obtain ⟨hd, hk⟩ := knownP_elim hk
  obtain ⟨v, hv, hk⟩ := slotV_elim hk
  obtain ⟨cs, hk, hp⟩ := partP_elim hk
  have hx := part_cells hp (hf.evV cx hgl _ _ hv)
  refine .growV (by simp [cls, ho]) (w' := w.alloc (.cells (a.eval x).cells T)) (v := .pointer (some ⟨w.heap.size, 0, none⟩)) ?_ (.alloc _ _) (new_var s hx hk)
  simp [execOp, ho, Instr.box, newVar, newRow]

theorem op_build {T : TypeId} {parts : Array (Nat × Operand)} (ho : o.op = .build T parts) {C : FuncId → List AV → H → (AV → H → Prop) → Prop} (hk : aop cx C o fr h K) : Step cx o a w (Done K h0 w0 g0 g l fr.loc) := by
  unfold aop at hk
  simp only [ho] at hk
  have hT := (hty T).d
  have exe : ∀ v w, (Instr.build T (parts.map fun (i, x) => (i, a.eval x))).run cx.P w = .ok v w → (execOp a.eval o).run cx.P w = .ok (.value v) w := by
    intro v w hv
    simp [execOp, ho, hv]
  have hpl : (parts.map fun (i, x) => (i, a.eval x)).toList = parts.toList.map fun p => (p.1, a.eval p.2) := by simp
  cases hz : (cx.ti T).zero <;> cases hd : (cx.ti T).d <;> rw [hd, hz] at hk <;> rw [hd] at hT <;> simp only at hk
  · -- an array
    rename_i zero n e
    obtain ⟨x, z, h1, h2, h3, h4, h5⟩ := (hty T).zero (by rw [hz]; rfl)
    obtain ⟨hke, hk⟩ := knownP_elim hk
    obtain ⟨css, hk, hl, hall⟩ := partsP_elim hk
    have hzv := h5 g
    rw [hz] at hzv
    generalize hzz : z = zz at hzv
    cases hzv with
    | agg _ vs hvs =>
    have hparts := parts_of (g := g) (place := fun i => some (i * (cx.ti e).size, (cx.ti e).size)) (ps := parts.toList.map fun p => (p.1, a.eval p.2)) (offs := parts.toList.map fun p => p.1 * (cx.ti e).size) (css := css)
      (by simpa using hl) (by simp) (fun i k v cs off a1 a2 a3 => by
        rw [List.getElem?_map] at a1 a3
        cases hpi : parts.toList[i]? with
        | none => rw [hpi] at a1; cases a1
        | some p =>
          rw [hpi] at a1 a3
          simp only [Option.map_some, Option.some.injEq, Prod.mk.injEq] at a1 a3
          obtain ⟨rfl, rfl⟩ := a1
          subst a3
          obtain ⟨k1, v, k2, k3⟩ := hall i e (fr.ev cx e p.2) cs (by rw [List.getElem?_map, hpi]; rfl) a2
          refine ⟨?_, part_cells k3 (hf.evV cx hgl _ _ k2)⟩
          rw [part_len (hty e) k1 k3])
    obtain ⟨as, out, f1, f2, f3⟩ := fill_sound hparts (cells := vs.toArray) (by simpa using hvs) hk
    refine .pureV (by simp [cls, ho]) (fun u => exe (.agg out) u ?_) (.pure s f3 (by have := VR.agg (g := g) as out.toList f2; show VR g _ _; simpa using this))
    simp only [Instr.build, run_zero h1 h3, run_under hT, run_size (hty e) hke, Sem.run_bind, Sem.run_pure, Result.andThen_ok, hpl, hzz, Value.cells, f1]
  · -- a struct
    rename_i zero fs
    obtain ⟨F, hF, hfs⟩ := hT
    obtain ⟨x, z, h1, h2, h3, h4, h5⟩ := (hty T).zero (by rw [hz]; rfl)
    cases hchk : (fs.all (fun f => !(cx.ti f.2).d.isOther) && parts.toList.all (fun p => Nat.blt p.1 fs.length)) with
    | false => rw [hchk] at hk; exact hk.elim
    | true =>
    rw [hchk] at hk
    simp only at hk
    obtain ⟨c1, c2⟩ := Bool.and_eq_true_iff.1 hchk
    obtain ⟨css, hk, hl, hall⟩ := partsP_elim hk
    have hzv := h5 g
    rw [hz] at hzv
    generalize hzz : z = zz at hzv
    cases hzv with
    | agg _ vs hvs =>
    have hknown : ∀ f ∈ F.toList, (cx.ti f.type).d.isOther = false := by
      intro f hf
      have := List.all_eq_true.1 c1 (f.offset, f.type) (by rw [← hfs]; exact List.mem_map.2 ⟨f, hf, rfl⟩)
      simpa using this
    obtain ⟨pl, p1, p2, p3⟩ := run_places (P := cx.P) F.toList fun f hf => ⟨cx.ti f.type, hty f.type, hknown f hf⟩
    have hparts := parts_of (g := g) (place := fun i => pl[i]?) (ps := parts.toList.map fun p => (p.1, a.eval p.2)) (offs := parts.toList.map fun p => (fs.getD p.1 (0, 0)).1) (css := css)
      (by simpa using hl) (by simp) (fun i k v cs off a1 a2 a3 => by
        rw [List.getElem?_map] at a1 a3
        cases hpi : parts.toList[i]? with
        | none => rw [hpi] at a1; cases a1
        | some p =>
          rw [hpi] at a1 a3
          simp only [Option.map_some, Option.some.injEq, Prod.mk.injEq] at a1 a3
          obtain ⟨rfl, rfl⟩ := a1
          subst a3
          obtain ⟨k1, v, k2, k3⟩ := hall i _ _ cs (by rw [List.getElem?_map, hpi]; rfl) a2
          have hlt : p.1 < fs.length := by
            have := List.all_eq_true.1 c2 p (List.mem_of_getElem? hpi)
            simpa using this
          have hltF : p.1 < F.toList.length := by rw [← hfs] at hlt; simpa using hlt
          have hfe : fs.getD p.1 (0, 0) = (F.toList[p.1].offset, F.toList[p.1].type) := by
            rw [List.getD_eq_getElem?_getD, ← hfs, List.getElem?_map, List.getElem?_eq_getElem hltF]; rfl
          rw [hfe] at k1 k2 k3
          refine ⟨?_, part_cells k3 (hf.evV cx hgl _ _ k2)⟩
          rw [part_len (hty _) k1 k3, hfe]
          exact p3 p.1 _ _ (List.getElem?_eq_getElem hltF) (hty _) k1)
    obtain ⟨as, out, f1, f2, f3⟩ := fill_sound hparts (cells := vs.toArray) (by simpa using hvs) hk
    refine .pureV (by simp [cls, ho]) (fun u => exe (.agg out) u ?_) (.pure s f3 (by have := VR.agg (g := g) as out.toList f2; show VR g _ _; simpa using this))
    have p1' : ∀ w, (F.mapM fun f => do pure (f.offset, ← sizeOf f.type) : Sem (Array (Nat × Nat))).run cx.P w = .ok pl.toArray w := by
      intro w
      rw [Array.mapM_eq_mapM_toList, map_eq_pure_bind]
      simp only [Sem.run_bind, p1, Result.andThen_ok, Sem.run_pure]
    simp only [Instr.build, run_zero h1 h3, run_under hF, Sem.run_bind, Result.andThen_ok, hpl, hzz, Value.cells]
    rw [p1']
    simp only [Result.andThen_ok, List.getElem?_toArray, f1, Sem.run_pure]

theorem op_buildSlice {T : TypeId} {len : Nat} {parts : Array (Nat × Operand)} (ho : o.op = .buildSlice T len parts) {C : FuncId → List AV → H → (AV → H → Prop) → Prop} (hk : aop cx C o fr h K) : Step cx o a w (Done K h0 w0 g0 g l fr.loc) := by
  unfold aop at hk
  simp only [ho] at hk
  have hT := (hty T).d
  have hpl : (parts.map fun (i, x) => (i, a.eval x)).toList = parts.toList.map fun p => (p.1, a.eval p.2) := by simp
  cases hd : (cx.ti T).d <;> rw [hd] at hk hT <;> simp only at hk
  rename_i e
  obtain ⟨hke, hk⟩ := knownP_elim hk
  cases hz : (cx.ti e).zero.isJunk <;> rw [hz] at hk <;> simp only at hk
  obtain ⟨x, z, h1, h2, h3, h4, h5⟩ := (hty e).zero hz
  obtain ⟨css, hk, hl, hall⟩ := partsP_elim hk
  obtain ⟨hle, hrange, hk⟩ := ifLe_elim hk
  have hlen : parts.toList.length = len := by have := congrArg List.length hrange; simpa using this
  have hcl : css.length = len := by rw [hl]; simpa using hlen
  generalize hsz : (cx.ti e).size = sz at *
  -- each part
  have hpi : ∀ (i : Nat) (cs : List AV), css[i]? = some cs → ∃ p : Nat × Operand, parts.toList[i]? = some p ∧ p.1 = i ∧ cs.length = sz ∧ VRs g cs (a.eval p.2).cells.toList ∧
      ((cx.ti e).agg = true ∧ fr.ev cx e p.2 = .v (.agg cs) ∨ (cx.ti e).agg = false ∧ ∃ v, cs = [v] ∧ v.one = true) := by
    intro i cs hcs
    have hi : i < len := by have := (List.getElem?_eq_some_iff.1 hcs).1; omega
    have hpe : parts.toList[i]? = some parts.toList[i] := List.getElem?_eq_getElem (by omega)
    obtain ⟨k1, v, k2, k3⟩ := hall i e (fr.ev cx e parts.toList[i].2) cs (by rw [List.getElem?_map, hpe]; rfl) hcs
    refine ⟨_, hpe, ?_, ?_, part_cells k3 (hf.evV cx hgl _ _ k2), ?_⟩
    · have e1 : (parts.toList.map (·.1))[i]? = (List.range len)[i]? := by rw [hrange]
      rw [List.getElem?_map, hpe, List.getElem?_range hi] at e1
      simpa using e1
    · rw [← hsz]; exact part_len (hty e) k1 k3
    · rcases k3 with ⟨b1, rfl, _⟩ | ⟨b1, b2, b3⟩
      · exact .inl ⟨b1, k2⟩
      · exact .inr ⟨b1, v, b2, b3⟩
  have heach : ∀ cs ∈ css, cs.length = sz := by
    intro cs hm
    obtain ⟨i, hi⟩ := List.mem_iff_getElem?.1 hm
    obtain ⟨_, _, _, h, _⟩ := hpi i cs hi
    exact h
  have hparts := parts_of (g := g) (place := fun i => some (i * sz, sz)) (ps := parts.toList.map fun p => (p.1, a.eval p.2)) (offs := (List.range' 0 len).map (· * sz)) (css := css)
    (by simp [hcl, hlen]) (by simp [hlen]) (fun i k v cs off a1 a2 a3 => by
      obtain ⟨p, b1, b2, b3, b4, _⟩ := hpi i cs a2
      rw [List.getElem?_map, b1] at a1
      simp only [Option.map_some, Option.some.injEq, Prod.mk.injEq] at a1
      obtain ⟨rfl, rfl⟩ := a1
      have hi : i < len := by have := (List.getElem?_eq_some_iff.1 a2).1; omega
      rw [List.getElem?_map, List.getElem?_range' hi] at a3
      simp only [Option.map_some, Option.some.injEq] at a3
      subst a3
      exact ⟨by rw [b2, b3]; simp, b4⟩)
  have hjunk : ∀ (n : Nat) (vs : List Value), vs.length = n → VRs g (List.replicate n .junk) vs := by
    intro n
    induction n with
    | zero => intro vs hv; rw [List.eq_nil_of_length_eq_zero hv]; exact .nil
    | succ n ih =>
      intro vs hv
      cases vs with
      | nil => simp at hv
      | cons v vs => exact .cons (.junk v) (ih vs (by simpa using hv))
  -- the run
  have hrun : ∀ (c0 : Array Value), c0.size = len * sz → ∃ out, Instr.fill (fun i => some (i * sz, sz)) c0 (parts.toList.map fun p => (p.1, a.eval p.2)) = some out ∧ VRs g css.flatten out.toList := by
    intro c0 hc0
    obtain ⟨as, out, f1, f2, f3⟩ := fill_sound hparts (cells := c0) (zero := List.replicate (len * sz) .junk) (K := fun as => as = css.flatten) (hjunk _ _ (by simpa using hc0))
      (by have := fillA_all (K := fun as => as = css.flatten) len 0 css [] hcl heach (by simp) (by simp); simpa using this)
    subst f3
    exact ⟨out, f1, f2⟩
  have hexe : ∃ out : Array Value, VRs g css.flatten out.toList ∧ (Instr.buildSlice T len (parts.map fun (i, x) => (i, a.eval x))).run cx.P w = .ok (.slice (some ⟨w.heap.size, 0, none⟩) len len) (w.alloc (.cells out e)) := by
    have hnot : ¬ (len * sz > 2 ^ 24) := by omega
    by_cases hzero : len * sz = 0
    · obtain ⟨out, f1, f2⟩ := hrun ((Array.range (len * sz)).map fun i => (#[] : Array Value)[i % (#[] : Array Value).size]!) (by simp)
      refine ⟨out, f2, ?_⟩
      simp only [Instr.buildSlice, run_under hT, run_size (hty e) hke, hsz, Sem.run_bind, Result.andThen_ok, hpl]
      rw [if_neg hnot]
      simp only [if_pos hzero, Sem.run_bind, Sem.run_pure, Result.andThen_ok]
      rw [f1]
      simp [newRow]
    · obtain ⟨out, f1, f2⟩ := hrun ((Array.range (len * sz)).map fun i => z.cells[i % z.cells.size]!) (by simp)
      refine ⟨out, f2, ?_⟩
      simp only [Instr.buildSlice, run_under hT, run_size (hty e) hke, hsz, Sem.run_bind, Result.andThen_ok, hpl]
      rw [if_neg hnot]
      simp only [if_neg hzero, run_zero h1 h3, Sem.run_bind, Sem.run_pure, Result.andThen_ok]
      rw [f1]
      simp [newRow]
  obtain ⟨out, hout, hrun2⟩ := hexe
  have hol : out.size = len * sz := by
    have e1 := flatten_len heach
    have := hout.length
    rw [e1, hcl] at this
    simpa using this.symm
  have hflat : (css.map fun cs => match (cx.ti e).agg with | true => AV.agg cs | false => cs.headD .junk).flatMap AV.cells = css.flatten ∧
      ∀ y ∈ (css.map fun cs => match (cx.ti e).agg with | true => AV.agg cs | false => cs.headD .junk), y.cells.length = sz := by
    have hone : ∀ cs ∈ css, (match (cx.ti e).agg with | true => AV.agg cs | false => cs.headD .junk).cells = cs := by
      intro cs hm
      obtain ⟨i, hi⟩ := List.mem_iff_getElem?.1 hm
      obtain ⟨_, _, _, _, _, h⟩ := hpi i cs hi
      rcases h with ⟨ha, _⟩ | ⟨ha, v, rfl, hv⟩
      · rw [ha]; rfl
      · rw [ha]; cases v <;> simp_all [AV.one, AV.cells]
    refine ⟨?_, fun y hy => ?_⟩
    · exact flat_of hone
    · obtain ⟨cs, hm, rfl⟩ := List.mem_map.1 hy
      rw [hone cs hm]; exact heach cs hm
  obtain ⟨s', hle', hhas⟩ := s.layf out e (0, 0) (len * sz) 0
  refine .growV (by simp [cls, ho]) (w' := w.alloc (.cells out e)) (v := .slice (some ⟨w.heap.size, 0, none⟩) len len) (by simp [execOp, ho, hrun2]) (.alloc _ _) (.grown hk s' hle' ?_)
  have := VR.lst (g := g.lay w.heap.size (len * sz) 0 out) .full sz (css.map fun cs => match (cx.ti e).agg with | true => AV.agg cs | false => cs.headD .junk) out.toList w.heap.size 0 len
    (by rw [hflat.1]; exact hout.mono hle') hflat.2 (hhas _ fun j v hj => ⟨by have := (List.getElem?_eq_some_iff.1 hj).1; rw [← hol]; simpa using this, by simpa using hj⟩) (by simp [Tag.ok, hcl]) (by simp [hcl])
  simp only [List.length_map, hcl] at this
  exact this

end
end Go.AM

namespace Go.AM
open Go

/-- The kind of a key's type. -/
def KOK (kd : TD) (t : TypeDesc) : Prop := (∃ k, kd = .int k ∧ t = .int k) ∨ (kd = .str ∧ t = .string)

theorem bytes_beq (a b : List UInt8) : ((⟨a.toArray⟩ : ByteArray) == (⟨b.toArray⟩ : ByteArray)) = (a == b) := by
  show ((a.toArray : Array UInt8) == b.toArray) = (a == b)
  simp

theorem eqT_same {g : Gh} {kd : TD} {t : TypeDesc} (hk : KOK kd t) {a b : AV} {u v : Value} (ha : VR g a u) (hb : VR g b v) {r : Bool} (h : eqT kd a b = some r) : Instr.sameNow t u v = some r := by
  rcases hk with ⟨k, rfl, rfl⟩ | ⟨rfl, rfl⟩
  · cases ha <;> cases hb <;> simp only [eqT] at h <;> first
      | (cases h; done)
      | skip
    rename_i k1 n1 k2 n2
    cases hkk : Nat.beq (ik k1) (ik k2) with
    | false => rw [hkk] at h; cases h
    | true =>
      rw [hkk] at h
      obtain rfl := ik_inj (Nat.eq_of_beq_eq_true hkk)
      simp only [Instr.sameNow, if_true]
      exact h
  · cases ha <;> cases hb <;> simp only [eqT] at h <;> first
      | (cases h; done)
      | skip
    simp only [Instr.sameNow, bytes_beq]
    exact h

theorem mfind_sound {g : Gh} {kd : TD} {t : TypeDesc} (hk : KOK kd t) {k : AV} {kv : Value} (ha : VR g k kv) : ∀ {es : List (AV × AV × Nat)} {es' : List MapEntry} {i : Nat} {K : Option (Nat × AV) → Prop}, ERs g es es' → mfind kd k es i K →
    (K none ∧ Instr.findNow t kv es' i = some none) ∨
    ∃ j v v' e, K (some (i + j, v)) ∧ VR g v v' ∧ Instr.findNow t kv es' i = some (some (i + j, v')) ∧ es'[j]? = some e ∧ Instr.sameNow t kv e.key = some true
  | [], _, i, K, .nil, h => .inl ⟨h, rfl⟩
  | e :: es, _, i, K, .cons (e := e') (es := es') he hes, h => by
    simp only [mfind] at h
    cases hq : eqT kd k e.1 with
    | none => rw [hq] at h; exact h.elim
    | some b =>
      rw [hq] at h
      have hs := eqT_same hk ha he.1 hq
      cases b with
      | true => exact .inr ⟨0, e.2.1, e'.val, e', h, he.2.1, by simp [Instr.findNow, hs], rfl, hs⟩
      | false =>
        rcases mfind_sound hk ha hes h with ⟨h1, h2⟩ | ⟨j, v, v', e2, h1, h2, h3, h4, h5⟩
        · exact .inl ⟨h1, by simp [Instr.findNow, hs, h2]⟩
        · refine .inr ⟨j + 1, v, v', e2, ?_, h2, ?_, by simpa using h4, h5⟩
          · rw [show i + (j + 1) = i + 1 + j from by omega]; exact h1
          · simp only [Instr.findNow, hs, h3]; rw [show i + (j + 1) = i + 1 + j from by omega]

theorem ERs.modify {g : Gh} {k v : AV} {kv vv : Value} (hk : VR g k kv) (hv : VR g v vv) : ∀ {es : List (AV × AV × Nat)} {es' : List MapEntry} (i : Nat), ERs g es es' →
    ERs g (es.modify i fun e => (k, v, e.2.2)) (es'.modify i fun e => { e with key := kv, val := vv })
  | _, _, _, .nil => by simp; exact .nil
  | _, _, 0, .cons he hes => by simp; exact .cons ⟨hk, hv, he.2.2⟩ hes
  | _, _, i + 1, .cons he hes => by simp; exact .cons he (ERs.modify hk hv i hes)

theorem ERs.push {g : Gh} {e : AV × AV × Nat} {e' : MapEntry} (he : ER g e e') : ∀ {es : List (AV × AV × Nat)} {es' : List MapEntry}, ERs g es es' → ERs g (es ++ [e]) (es' ++ [e'])
  | _, _, .nil => .cons he .nil
  | _, _, .cons h hes => .cons h (ERs.push he hes)

theorem ERs.erase {g : Gh} : ∀ {es : List (AV × AV × Nat)} {es' : List MapEntry} (i : Nat), ERs g es es' → ERs g (es.eraseIdx i) (es'.eraseIdx i)
  | _, _, _, .nil => by simp; exact .nil
  | _, _, 0, .cons he hes => by simpa using hes
  | _, _, i + 1, .cons he hes => by simp; exact .cons he (ERs.erase i hes)

section
variable {cx : Cx} {o : Oper} {fr : Fr} {h0 h : H} {w0 w : World} {g0 g : Gh} {l : List Nat} {a : Act} {K : Slot → List Box → H → Prop}

theorem kok_of {P : Program} {t : TypeId} {i : TI} (hi : TIok P t i) (hk : keyTD i.d = true) : ∃ td, P.underlying t = some td ∧ KOK i.d td := by
  have hd := hi.d
  cases e : i.d <;> rw [e] at hk hd <;> simp [keyTD] at hk
  · exact ⟨_, hd, .inl ⟨_, rfl, rfl⟩⟩
  · exact ⟨_, hd, .inr ⟨rfl, rfl⟩⟩

theorem run_checkKey {P : Program} {kt : TypeId} {td : TypeDesc} {kd : TD} (h1 : P.underlying kt = some td) (h2 : KOK kd td) (b : Bool) (n : Nat) (v : Value) : (Instr.checkKey b (n + 1) kt v).run P w = .ok () w := by
  rcases h2 with ⟨k, rfl, rfl⟩ | ⟨rfl, rfl⟩ <;> simp [Instr.checkKey, run_under h1]

theorem run_findKey {P : Program} {kt : TypeId} {td : TypeDesc} (h1 : P.underlying kt = some td) {kv : Value} {es : List MapEntry} {r : Option (Nat × Value)} (h2 : Instr.findNow td kv es 0 = some r) : (Instr.findKey kt kv es).run P w = .ok r w := by
  simp [Instr.findKey, run_under h1, h2]

theorem map_obj (r : Rel g h w) {b : Nat} {es : List (AV × AV × Nat)} {clock : Nat} (hb : h.m b = some (.map es clock)) : ∃ es' : Array MapEntry, w.heap[b]? = some (.map es' clock) ∧ ERs g es es'.toList := by
  obtain ⟨⟨x, hx1, hx2⟩, _⟩ := r.mm b _ hb
  cases x <;> simp only [OR] at hx2
  obtain ⟨rfl, hx2⟩ := hx2
  exact ⟨_, hx1, hx2⟩

theorem run_getMap {P : Program} {r : Nat} {es : Array MapEntry} {c : Nat} (h : w.heap[r]? = some (.map es c)) : (getObj r).run P w = .ok (.map es c) w := by simp [getObj, Sem.run, h]

variable (hty : TyOK cx) (hgl : GlOK cx.gl g) (s : SI h0 w0 g0 g h l fr.loc w) (hf : FRel g l fr a)
include hty hgl s hf

theorem op_lookup {T : TypeId} {x y : Operand} {ok : Bool} (ho : o.op = .lookup T x y ok) {C : FuncId → List AV → H → (AV → H → Prop) → Prop} (hk : aop cx C o fr h K) : Step cx o a w (Done K h0 w0 g0 g l fr.loc) := by
  unfold aop at hk
  simp only [ho] at hk
  have hT := (hty T).d
  cases hd : (cx.ti T).d <;> rw [hd] at hk hT <;> simp only [TDok] at hT hk
  rename_i kt et
  cases hkt : keyTD (cx.ti kt).d <;> cases hz : (cx.ti et).zero.isJunk <;> rw [hkt, hz] at hk <;> simp only at hk
  obtain ⟨td, htd, hko⟩ := kok_of (hty kt) hkt
  obtain ⟨info, z, i1, i2, i3, i4, i5⟩ := (hty et).zero hz
  obtain ⟨mv, hm, hk⟩ := slotV_elim hk
  obtain ⟨kv, hkv, hk⟩ := slotV_elim hk
  have hx := hf.evV cx hgl _ _ hm
  have hy := hf.evV cx hgl _ _ hkv
  have fin : ∀ (b : Bool) (v : AV) (v' : Value), VR g v v' → (typP cx et v fun v => (match (generalizing := false) ok with | true => K (.v (.tup [v, .bool b])) fr.loc h | false => K (.v v) fr.loc h)) →
      (execOp a.eval o).run cx.P w = .ok (.value (if ok then .tuple #[v', .bool b] else v')) w → Step cx o a w (Done K h0 w0 g0 g l fr.loc) := by
    intro b v v' hv hk hr
    obtain ⟨hk, _⟩ := typP_elim hk
    refine .wildV (by simp [cls, ho]) hr ?_
    cases ok with
    | true => exact .pure s hk (VR.tup [v, .bool b] [v', .bool b] (.cons hv (.cons (.bool b) .nil)))
    | false => exact .pure s hk hv
  unfold lookP at hk
  generalize hxe : a.eval x = xv at hx
  generalize hye : a.eval y = yv at hy
  cases hx with
  | map r =>
   cases r with
   | none =>
     simp only at hk
     refine fin false _ z (i5 g) hk ?_
     have e2 : (Instr.findKey kt yv (#[] : Array MapEntry).toList).run cx.P w = .ok none w := run_findKey htd rfl
     simp [execOp, ho, hxe, hye, Instr.lookup, run_under hT, run_checkKey htd hko, e2, run_zero i1 i3]
   | some r =>
     simp only at hk
     cases hb : h.m r with
     | none => rw [hb] at hk; exact hk.elim
     | some ob =>
       rw [hb] at hk
       cases ob with
       | map es clock =>
         simp only at hk
         obtain ⟨es', h1, h2⟩ := map_obj s.rel hb
         rcases mfind_sound hko hy h2 hk with ⟨hk, h3⟩ | ⟨j, v, v', e, hk, h4, h3, h5, h6⟩
         · refine fin false _ z (i5 g) hk ?_
           simp [execOp, ho, hxe, hye, Instr.lookup, run_under hT, run_getMap h1, run_checkKey htd hko, run_findKey htd h3, run_zero i1 i3]
         · refine fin true v v' h4 hk ?_
           simp [execOp, ho, hxe, hye, Instr.lookup, run_under hT, run_getMap h1, run_checkKey htd hko, run_findKey htd h3]
       | cells _ _ => exact hk.elim
       | iter _ _ _ _ => exact hk.elim

  | _ => exact hk.elim

omit hty hgl hf in
theorem SI.setMap {r : Nat} {ob : MObj} (hb : h.m r = some ob) {es : List (AV × AV × Nat)} {es' : Array MapEntry} {clock : Nat} (he : ERs g es es'.toList) (hlt : r < w.heap.size) :
    SI h0 w0 g0 g (h.put r (.map es clock)) l fr.loc { w with heap := w.heap.setIfInBounds r (.map es' clock) } :=
  s.setm hb (x := .map es' clock) ⟨rfl, he⟩ (by simp [hlt]) (fun k hk => by simp [Array.getElem?_setIfInBounds_ne (Ne.symm hk)]) (by simp) rfl rfl rfl

omit hty hgl s hf in
theorem run_setMap {P : Program} {r : Nat} {es es2 : Array MapEntry} {c c2 : Nat} (h : w.heap[r]? = some (.map es c)) : (setObj r (.map es2 c2)).run P w = .ok () { w with heap := w.heap.setIfInBounds r (.map es2 c2) } := by
  simp [setObj, Sem.run, h]

omit hty hgl s hf in
theorem same_bits {td : TypeDesc} {u v : Value} (h : Instr.sameNow td u v = some true) (n : Nat) : Instr.sameBits n v u = true := by
  unfold Instr.sameNow at h
  split at h
  · split at h
    · rename_i hk
      subst hk
      simp only [Option.some.injEq, beq_iff_eq] at h
      subst h
      cases n <;> simp [Instr.sameBits]
    · cases h
  · rename_i x y
    have h : (x.data == y.data) = true := Option.some.inj h
    have h' : x = y := ByteArray.ext (by simpa using h)
    subst h'
    have e : (x == x) = true := h
    cases n <;> simpa [Instr.sameBits] using e
  · simp only [Option.some.injEq, beq_iff_eq] at h
    subst h
    cases n <;> simp [Instr.sameBits]
  · cases h

theorem op_mapUpdate {T : TypeId} {x y z : Operand} (ho : o.op = .mapUpdate T x y z) {C : FuncId → List AV → H → (AV → H → Prop) → Prop} (hk : aop cx C o fr h K) : Step cx o a w (Done K h0 w0 g0 g l fr.loc) := by
  unfold aop at hk
  simp only [ho] at hk
  have hT := (hty T).d
  cases hd : (cx.ti T).d <;> rw [hd] at hk hT <;> simp only [TDok] at hT hk
  rename_i kt et
  cases hkt : keyTD (cx.ti kt).d <;> rw [hkt] at hk <;> simp only at hk
  obtain ⟨td, htd, hko⟩ := kok_of (hty kt) hkt
  obtain ⟨mv, hm, hk⟩ := slotV_elim hk
  obtain ⟨kv, hkv, hk⟩ := slotV_elim hk
  obtain ⟨vv, hvv, hk⟩ := slotV_elim hk
  have hx := hf.evV cx hgl _ _ hm
  have hy := hf.evV cx hgl _ _ hkv
  have hz := hf.evV cx hgl _ _ hvv
  unfold updP at hk
  generalize hxe : a.eval x = xv at hx
  generalize hye : a.eval y = yv at hy
  generalize hze : a.eval z = zv at hz
  cases hx with
  | map r =>
    cases r with
    | none => exact hk.elim
    | some r =>
      simp only at hk
      cases hb : h.m r with
      | none => rw [hb] at hk; exact hk.elim
      | some ob =>
        rw [hb] at hk
        cases ob with
        | map es clock =>
          simp only at hk
          have hlt := s.rel.block hb
          obtain ⟨es', h1, h2⟩ := map_obj s.rel hb
          rcases mfind_sound hko hy h2 hk with ⟨hk, h3⟩ | ⟨j, v, v', e, hk, h4, h3, h5, h6⟩
          · refine ⟨undef, { w with heap := w.heap.setIfInBounds r (.map (es'.push ⟨yv, zv, clock⟩) (clock + 1)) }, .inr ⟨rfl, ?_⟩, ⟨g, l, undefS, _, _, .refl _, hk, ?_, .refl g, fun _ _ h => h, undef_sr⟩, by simp [Cl, cls, ho]⟩
            · simp [execOp, ho, hxe, hye, hze, Instr.mapUpdate, run_under hT, run_getMap h1, run_checkKey htd hko, run_findKey htd h3, run_setMap h1]
            · refine s.setMap hb ?_ hlt
              rw [Array.toList_push]
              exact h2.push ⟨hy, hz, rfl⟩
          · refine ⟨undef, { w with heap := w.heap.setIfInBounds r (.map (es'.modify (0 + j) fun e => { e with key := yv, val := zv }) clock) }, .inr ⟨rfl, ?_⟩, ⟨g, l, undefS, _, _, .refl _, hk, ?_, .refl g, fun _ _ h => h, undef_sr⟩, by simp [Cl, cls, ho]⟩
            · have h5' : es'[0 + j]? = some e := by simpa using h5
              have hst : (Instr.keyThatStays e.key yv).run cx.P w = .ok yv w := by simp [Instr.keyThatStays, same_bits h6]
              simp only [execOp, ho, hxe, hye, hze, Instr.mapUpdate, Sem.run_bind, run_under hT, Result.andThen_ok, run_getMap h1, run_checkKey htd hko, run_findKey htd h3, h5', Option.map_some, Option.getD_some, hst, run_setMap h1, Sem.run_pure]
            · refine s.setMap hb ?_ hlt
              rw [Array.toList_modify]
              exact ERs.modify hy hz (0 + j) h2
        | cells _ _ => exact hk.elim
        | iter _ _ _ _ => exact hk.elim
  | _ => exact hk.elim

omit hgl hf in
/-- What 'delete' does. -/
theorem delete_sound {t kt et ty : TypeId} {ts : List TypeId} (hT : cx.P.underlying t = some (.map kt et)) (hkt : keyTD (cx.ti kt).d = true) {m k : AV} {mv kv : Value} (hm : VR g m mv) (hkv : VR g k kv) {K : H → Prop} (hk : delP (cx.ti kt).d h m k K) :
    ∃ h' w', (Builtin.delete_ (t :: ts).toArray ty #[mv, kv]).run cx.P w = .ok (.tuple #[]) w' ∧ K h' ∧ SI h0 w0 g0 g h' l fr.loc w' := by
  obtain ⟨td, htd, hko⟩ := kok_of (hty kt) hkt
  unfold delP at hk
  cases hm with
  | map r =>
    cases r with
    | none => exact ⟨h, w, by simp [Builtin.delete_, run_under hT, run_checkKey htd hko], hk, s⟩
    | some r =>
      simp only at hk
      cases hb : h.m r with
      | none => rw [hb] at hk; exact hk.elim
      | some ob =>
        rw [hb] at hk
        cases ob with
        | map es clock =>
          simp only at hk
          have hlt := s.rel.block hb
          obtain ⟨es', h1, h2⟩ := map_obj s.rel hb
          rcases mfind_sound hko hkv h2 hk with ⟨hk, h3⟩ | ⟨j, v, v', e, hk, h4, h3, h5, h6⟩
          · exact ⟨_, { w with heap := w.heap.setIfInBounds r (.map es' clock) }, by simp [Builtin.delete_, run_under hT, run_getMap h1, run_checkKey htd hko, run_findKey htd h3, run_setMap h1], hk, s.setMap hb h2 hlt⟩
          · refine ⟨_, { w with heap := w.heap.setIfInBounds r (.map (es'.eraseIdxIfInBounds (0 + j)) clock) }, by simp [Builtin.delete_, run_under hT, run_getMap h1, run_checkKey htd hko, run_findKey htd h3, run_setMap h1], hk, s.setMap hb ?_ hlt⟩
            have hlj : 0 + j < es'.size := by have := (List.getElem?_eq_some_iff.1 h5).1; simpa using this
            have : (es'.eraseIdxIfInBounds (0 + j)).toList = es'.toList.eraseIdx (0 + j) := by
              unfold Array.eraseIdxIfInBounds
              rw [dif_pos hlj]
              simp
            rw [this]
            exact ERs.erase (0 + j) h2
        | cells _ _ => exact hk.elim
        | iter _ _ _ _ => exact hk.elim
  | _ => exact hk.elim

omit hty hgl s hf in
theorem made_vr {zs : List AV} {vs : Array Value} (hz : VRs g zs vs.toList) (n : Nat) (h0 : 0 < zs.length ∨ n = 0) : VRs g (madeA zs n) (madeCells vs n).toList := by
  refine VRs.of_get (by simp [madeA, madeCells]) fun i a v h1 h2 => ?_
  have hlen : zs.length = vs.size := by simpa using hz.length
  simp only [madeA, madeCells, Array.toList_map, List.getElem?_map] at h1 h2
  have hi : i < n := by
    cases hx : (List.range n)[i]? with
    | none => rw [hx] at h1; cases h1
    | some k => have := (List.getElem?_eq_some_iff.1 hx).1; simpa using this
  rw [List.getElem?_range hi] at h1
  simp [hi] at h1 h2
  have hpos : 0 < zs.length := by rcases h0 with h | h <;> omega
  have hm : i % zs.length < zs.length := Nat.mod_lt _ hpos
  obtain ⟨u, hu1, hu2⟩ := hz.get (List.getElem?_eq_getElem hm)
  have e1 : zs.getD (i % zs.length) .junk = zs[i % zs.length] := by rw [List.getD_eq_getElem?_getD, List.getElem?_eq_getElem hm]; rfl
  have e2 : vs[i % vs.size]! = u := by
    have hm2 : i % vs.size < vs.size := by rw [← hlen]; exact hm
    rw [getElem!_pos vs (i % vs.size) hm2]
    rw [hlen] at hu1
    have : vs[i % vs.size]? = some u := by simpa using hu1
    rw [Array.getElem?_eq_getElem hm2] at this
    exact Option.some.inj this
  rw [← h1, ← h2]
  simp only [List.getD_eq_getElem?_getD] at e1 ⊢
  rw [e1, e2]
  exact hu2

theorem op_makeSlice {T : TypeId} {x y : Operand} (ho : o.op = .makeSlice T x y) {C : FuncId → List AV → H → (AV → H → Prop) → Prop} (hk : aop cx C o fr h K) : Step cx o a w (Done K h0 w0 g0 g l fr.loc) := by
  unfold aop at hk
  simp only [ho] at hk
  have hT := (hty T).d
  cases hd : (cx.ti T).d <;> rw [hd] at hk hT <;> simp only [TDok] at hT hk
  rename_i e
  cases hz : (cx.ti e).zero.isJunk <;> rw [hz] at hk <;> simp only at hk
  obtain ⟨info, z, i1, i2, i3, i4, i5⟩ := (hty e).zero hz
  have hby : info.bytes = (cx.ti e).bytes := (hty e).bytes _ i1 hz
  obtain ⟨kn, n, hn, hk⟩ := intP_elim hk
  obtain ⟨km, m, hm, hk⟩ := intP_elim hk
  have hx := hf.evV cx hgl _ _ hn
  have hy := hf.evV cx hgl _ _ hm
  generalize hxe : a.eval x = xv at hx
  generalize hye : a.eval y = yv at hy
  cases hx
  cases hy
  have exe : 0 ≤ n → n ≤ m → ((cx.ti e).bytes : Int) * m ≤ 281474976710656 → m ≤ 9223372036854775807 →
      (execOp a.eval o).run cx.P w = .ok (.value (.slice (some ⟨w.heap.size, 0, none⟩) n.toNat m.toNat)) (w.alloc (.cells (madeCells z.cells (m.toNat * info.size)) e)) := by
    intro h1 h2 h3 h4
    have hr := run_make (P := cx.P) w T e info z hT i1 i3 kn km n m h1 h2 (by rw [hby]; exact h3) h4
    simp [execOp, ho, hxe, hye, hr]
  rw [i2] at exe
  cases hzc : zeroC x with
  | true =>
    rw [hzc] at hk
    obtain ⟨⟨h1, h2, h3⟩, k9⟩ := hk
    obtain rfl : n = 0 := by
      unfold zeroC at hzc
      split at hzc
      · simp [Act.eval] at hxe; exact hxe.2.symm
      · cases hzc
    have hsz : (madeCells z.cells (m.toNat * (cx.ti e).size)).size = m.toNat * (cx.ti e).size := size_madeCells _ _
    obtain ⟨s', hle, hhas⟩ := s.lay (madeCells z.cells (m.toNat * (cx.ti e).size)) e 0 (m.toNat * (cx.ti e).size) (by rw [hsz]; exact Nat.le_refl _)
    refine .wildV (by simp [cls, ho]) (exe (Int.le_refl _) h1 h2 h3) (.grown (k9 _ s.rel.free_new) s' hle ?_)
    exact VR.lst (.own w.heap.size 0) (cx.ti e).size [] [] w.heap.size 0 m.toNat .nil (by simp) (fun j v hj => by simp at hj) ⟨rfl, by simp, by simp [Gh.lay]⟩ (by simp)
  | false =>
    rw [hzc] at hk
    obtain ⟨⟨h1, h2, h3, h4⟩, hk⟩ := hk
    refine .wildV (by simp [cls, ho]) (exe h1 h2 h3 h4) (.grown (hk _ s.rel.free_new) (s.alloc (o := .cells e (madeA (cx.ti e).zero.cells (m.toNat * (cx.ti e).size))) ⟨rfl, ?_, rfl⟩) (.refl g) (.sl _ _ _ _))
    have hvr := i5 g
    have hne : (cx.ti e).zero ≠ .junk := by intro e0; rw [e0] at hz; cases hz
    have hc := hvr.cells hne
    refine made_vr hc _ ?_
    have hl := hc.length
    rcases Nat.eq_zero_or_pos (cx.ti e).size with h0 | h0
    · right; rw [h0]; simp
    · left; rw [hl]; simp; omega
end
end Go.AM

namespace Go.AM
open Go

section
variable {h0 h : H} {w0 w : World} {g0 g : Gh} {l : List Nat} {loc : List Box} {P : Program}

/-- A call leaves the caller's own boxes as they are. -/
theorem SI.call (s : SI h0 w0 g0 g h l loc w) {g' : Gh} {h' : H} {w' : World} (i : Inv h w g g' h' w') : SI h0 w0 g0 g' h' l loc w' := by
  have hl : ∀ b ∈ l, w'.heap[b]? = w.heap[b]? ∧ h'.m b = none ∧ h'.t b = none ∧ ∀ j, g'.im b j = g.im b j := fun b hb =>
    i.keep b (s.lt hb) (s.fr b hb).1 (s.fr b hb).2
  refine ⟨⟨⟨i.rel.im, i.rel.lim, ?_, ?_⟩, s.inv.le.trans i.le, Nat.le_trans s.inv.size i.size, i.tape.trans s.inv.tape, i.os.trans s.inv.os, i.output.trans s.inv.output, ?_⟩, s.len, s.nd, fun b hb => ⟨(hl b hb).2.1, (hl b hb).2.2.1⟩⟩
  · intro b o hb
    by_cases hm : b ∈ l
    · obtain ⟨k, hk⟩ := List.mem_iff_getElem?.1 hm
      have hlt : k < loc.length := by rw [← s.len]; exact (List.getElem?_eq_some_iff.1 hk).1
      have e1 := H.withL_mem (h := h') l loc s.nd hk (List.getElem?_eq_getElem hlt)
      have e2 := H.withL_mem (h := h) l loc s.nd hk (List.getElem?_eq_getElem hlt)
      rw [e1] at hb
      cases hb
      obtain ⟨⟨x, h1, h2⟩, h3, _⟩ := s.inv.rel.mm b _ e2
      obtain ⟨k1, k2, k3, k4⟩ := hl b hm
      refine ⟨⟨x, by rw [k1]; exact h1, h2.mono i.le⟩, fun j => by rw [k4, h3], ?_⟩
      rw [H.withL_t]; exact k3
    · rw [H.withL_not l loc hm] at hb
      obtain ⟨h1, h2, h3⟩ := i.rel.mm b o hb
      exact ⟨h1, h2, by rw [H.withL_t]; exact h3⟩
  · intro b e hb
    rw [H.withL_t] at hb
    exact i.rel.tt b e hb
  · intro b hb hm ht
    obtain ⟨k1, k2, k3, k4⟩ := s.inv.keep b hb hm ht
    have hn : b ∉ l := fun hx => by
      obtain ⟨k, hk⟩ := List.mem_iff_getElem?.1 hx
      have hlt : k < loc.length := by rw [← s.len]; exact (List.getElem?_eq_some_iff.1 hk).1
      have e2 := H.withL_mem (h := h) l loc s.nd hk (List.getElem?_eq_getElem hlt)
      rw [k2] at e2; cases e2
    rw [H.withL_not l loc hn] at k2
    rw [H.withL_t] at k3
    obtain ⟨j1, j2, j3, j4⟩ := i.keep b (Nat.lt_of_lt_of_le hb s.inv.size) k2 k3
    exact ⟨j1.trans k1, by rw [H.withL_not l loc hn]; exact j2, by rw [H.withL_t]; exact j3, fun j => (j4 j).trans (k4 j)⟩
end

theorem take_flat {sz : Nat} : ∀ {zs : List AV} {k : Nat}, (∀ z ∈ zs, z.cells.length = sz) → (zs.take k).flatMap AV.cells = (zs.flatMap AV.cells).take (k * sz)
  | [], k, _ => by simp
  | z :: zs, 0, _ => by simp
  | z :: zs, k + 1, hz => by
    have ih := take_flat (zs := zs) (k := k) fun y hy => hz y (by simp [hy])
    have hz0 := hz z (by simp)
    have e1 : (k + 1) * sz = z.cells.length + k * sz := by rw [hz0, Nat.add_mul]; omega
    rw [List.take_succ_cons, List.flatMap_cons, List.flatMap_cons, ih, e1, List.take_length_add_append]

/-- A function is called, and returns. -/
def CallsX (P : Program) (f : FuncId) (args : Array Value) (w : World) (R : Value → World → Prop) : Prop :=
  match (callFunc f args).run P w with
  | .ok (.enter f' args') w' => Calls P f' args' w' fun e w'' => match e with | .returned v => R v w'' | _ => False
  | .ok (.value v) w' => R v w'
  | _ => False

theorem CallsX.mono {P : Program} {f : FuncId} {args : Array Value} {w : World} {R R' : Value → World → Prop} (h : CallsX P f args w R) (hr : ∀ v w, R v w → R' v w) : CallsX P f args w R' := by
  unfold CallsX at *
  split
  · rename_i e; rw [e] at h
    exact Calls.mono h fun e w'' he => by cases e <;> first | exact hr _ _ he | exact he
  · rename_i e; rw [e] at h; exact hr _ _ h
  · rename_i h1 h2
    split at h
    · rename_i e; exact h1 _ _ _ e
    · rename_i e; exact h2 _ _ e
    · exact h

/-- What a call asks of the abstract heap, so that it returns in Q. -/
def ACall (P : Program) (gl : Nat → AV) (f : FuncId) (args : List AV) (h : H) (Q : AV → H → Prop) : Prop :=
  ∀ (g : Gh) (w : World) (vs : List Value), GlOK gl g → Rel g h w → VRs g args vs → CallsX P f vs.toArray w fun v w' => ∃ g' h' av, Q av h' ∧ Inv h w g g' h' w' ∧ VR g' av v

theorem ACall.mono {P : Program} {gl : Nat → AV} {f : FuncId} {args : List AV} {h : H} {Q Q' : AV → H → Prop} (hc : ACall P gl f args h Q) (hq : ∀ v h, Q v h → Q' v h) : ACall P gl f args h Q' :=
  fun g w vs h1 h2 h3 => CallsX.mono (hc g w vs h1 h2 h3) fun _ _ ⟨g', h', av, h4, h5⟩ => ⟨g', h', av, hq _ _ h4, h5⟩

section
variable {cx : Cx} {o : Oper} {fr : Fr} {h0 h : H} {w0 w : World} {g0 g : Gh} {l : List Nat} {a : Act} {K : Slot → List Box → H → Prop}

theorem Step.wp {R : Value → World → Prop} {next : Act → World → Prop} {Q : Exit → Act → World → Prop} (hs : Step cx o a w R) (hr : ∀ v w', R v w' → next (a.put o.dst v) w') : o.wp cx.P a w next Q := by
  obtain ⟨v, w', h1 | ⟨rfl, h1⟩, h2, _⟩ := hs
  · unfold Oper.wp; rw [h1]; exact hr _ _ h2
  · unfold Oper.wp; rw [h1]; exact hr _ _ h2

variable (hty : TyOK cx) (hgl : GlOK cx.gl g) (s : SI h0 w0 g0 g h l fr.loc w) (hf : FRel g l fr a)
include hgl s hf

omit s in
theorem args_vr : ∀ {xs : List Operand} {ts : List TypeId} {vs : List AV}, evArgs fr cx xs ts = vs.map .v → VRs g vs (xs.map a.eval)
  | [], _, [], _ => .nil
  | [], _, _ :: _, h => by simp [evArgs] at h
  | _ :: _, [], [], h => by simp [evArgs] at h
  | _ :: _, _ :: _, [], h => by simp [evArgs] at h
  | x :: xs, [], v :: vs, h => by
    simp only [evArgs, List.map_cons, List.cons.injEq] at h
    exact .cons (hf.evV cx hgl _ _ h.1) (args_vr h.2)
  | x :: xs, t :: ts, v :: vs, h => by
    simp only [evArgs, List.map_cons, List.cons.injEq] at h
    exact .cons (hf.evV cx hgl _ _ h.1) (args_vr h.2)

omit hf in
/-- A call of a function whose first and last arguments the function value holds. -/
theorem call_fn {f : FuncId} {av bv cv : List AV} {as bs cs : List Value} (ha : VRs g av as) (hb : VRs g bv bs) (hc : VRs g cv cs) {x : Operand} {c : Call} (ho : o.op = .call c) (hcal : c.callee = .value x)
    (hx : a.eval x = .func (.func f) as.toArray cs.toArray) (hargs : (c.args.map a.eval).toList = bs)
    (hk : callP cx (ACall cx.P cx.gl) o.type f (av ++ bv ++ cv) h fun v h' => K (.v v) fr.loc h') {next : Act → World → Prop} {Q : Exit → Act → World → Prop}
    (hr : ∀ v w', Done K h0 w0 g0 g l fr.loc v w' → next (a.put o.dst v) w') : o.wp cx.P a w next Q := by
  have hcall := hk g w (as ++ bs ++ cs) hgl s.rel ((ha.append hb).append hc)
  have e1 : (execOp a.eval o).run cx.P w = (callFunc f (as ++ bs ++ cs).toArray).run cx.P w := by
    have e2 : c.args.map a.eval = bs.toArray := by rw [← hargs]
    simp only [execOp, ho, resolve, hcal, Deferred.ofValue, hx, e2, invoke, Sem.run_bind, Sem.run_pure, Result.andThen_ok, List.append_toArray]
  unfold Oper.wp
  rw [e1]
  unfold CallsX at hcall
  generalize (callFunc f (as ++ bs ++ cs).toArray).run cx.P w = r at hcall ⊢
  have fin : ∀ v w', (∃ g' h' av, (typP cx o.type av fun v' => K (.v v') fr.loc h') ∧ Inv h w g g' h' w' ∧ VR g' av v) → next (a.put o.dst v) w' := by
    rintro v w' ⟨g', h', av', h1, h2, h3⟩
    obtain ⟨h4, _⟩ := typP_elim h1
    exact hr _ _ (.grown h4 (s.call h2) h2.le h3)
  split at hcall
  · rw [Oper.upon_enter]
    exact Calls.mono hcall fun e w'' he => by cases e <;> first | exact fin _ _ he | exact he.elim
  · exact fin _ _ hcall
  · exact hcall.elim

theorem op_call_fn {c : Call} {x : Operand} (ho : o.op = .call c) (hcal : c.callee = .value x) (hk : aop cx (ACall cx.P cx.gl) o fr h K) {next : Act → World → Prop} {Q : Exit → Act → World → Prop}
    (hr : ∀ v w', Done K h0 w0 g0 g l fr.loc v w' → next (a.put o.dst v) w') : o.wp cx.P a w next Q := by
  unfold aop at hk
  simp only [ho, hcal] at hk
  obtain ⟨vs, hvs, hk⟩ := slots_elim hk
  have hargs := args_vr hgl hf hvs
  have hargs' : VRs g vs (c.args.map a.eval).toList := by rw [Array.toList_map]; exact hargs
  have val : ∀ y : Operand, x = y → (match fr.ev cx 0 y with
      | .v (.fn f first caps) => callP cx (ACall cx.P cx.gl) o.type f (first ++ vs ++ caps) h fun v h' => K (.v v) fr.loc h'
      | _ => False) → o.wp cx.P a w next Q := by
    intro y hy hk
    split at hk
    · rename_i f first caps hs
      have hx := hf.evV cx hgl _ _ hs
      generalize hu : a.eval y = u at hx
      cases hx with
      | fn _ _ _ as cs h1 h2 => exact call_fn hgl s h1 hargs' h2 ho hcal (by rw [hy]; exact hu) rfl hk hr
    · exact hk.elim
  cases x with
  | func f => exact call_fn hgl s (av := []) (cv := []) (as := []) (cs := []) .nil hargs' .nil ho hcal rfl rfl (by simpa using hk) hr
  | tmp t => exact val _ rfl hk
  | const v => exact val _ rfl hk
  | global k => exact val _ rfl hk

include hty

theorem op_call_builtin {c : Call} {b : Builtin} (ho : o.op = .call c) (hcal : c.callee = .builtin b) {C : FuncId → List AV → H → (AV → H → Prop) → Prop} (hk : aop cx C o fr h K) : Step cx o a w (Done K h0 w0 g0 g l fr.loc) := by
  unfold aop at hk
  simp only [ho, hcal] at hk
  obtain ⟨vs, hvs, hk⟩ := slots_elim hk
  have hargs := args_vr hgl hf hvs
  have exe : ∀ us : List Value, c.args.toList.map a.eval = us → ∀ w, (execOp a.eval o).run cx.P w = (builtin b c.argTypes o.type (c.args.map fun | .const _ => true | _ => false) us.toArray).run cx.P w := by
    intro us hus w
    have e0 : ∀ z : Array Operand, z.map a.eval = (z.toList.map a.eval).toArray := fun z => by cases z; simp
    have e2 : c.args.map a.eval = us.toArray := by rw [← hus]; exact e0 _
    simp only [execOp, ho, resolve, hcal, e2, invoke, Sem.run_bind, Sem.run_pure, Result.andThen_ok]
    rfl
  have htt : c.argTypes = c.argTypes.toList.toArray := by simp
  have hcl : cls cx o = clsB cx b c.argTypes.toList := by simp [cls, ho, hcal]
  rw [htt] at exe
  generalize c.argTypes.toList = ts at hk exe hvs hcl
  generalize hus : c.args.toList.map a.eval = us at hargs
  have exe := exe us hus
  unfold builtinP at hk
  split at hk
  · -- append
    rename_i t t2 s' x' _ _
    cases hargs with
    | @cons _ sv _ _ hsv hr1 =>
    cases hr1 with
    | @cons _ xv _ _ hxv hr2 =>
    cases hr2
    have hT := (hty t).d
    have hT2 := (hty t2).d
    have key : ∀ e, cx.P.underlying t = some (.slice e) → ((∃ e2, cx.P.underlying t2 = some (.slice e2)) ∨ cx.P.underlying t2 = some .string) →
        knownP (cx.ti e) (match (cx.ti e).zero.isJunk with | false => rdP (cx.ti e) h x' fun ys => apP (cx.ti e) h s' ys fun v h' => K (.v v) fr.loc h' | true => False) →
        Step cx o a w (Done K h0 w0 g0 g l fr.loc) := by
      intro e h1 h2 hk
      obtain ⟨hd, hk⟩ := knownP_elim hk
      cases hz : (cx.ti e).zero.isJunk <;> rw [hz] at hk <;> simp only at hk
      obtain ⟨ys, us, hk, src⟩ := rdP_elim (P := cx.P) s.rel (hty e) hd hxv hk
      obtain ⟨v', w', g', h', av, r1, r2, r3, r4, r5⟩ := append_sound (ty := o.type) s h1 h2 (hty e) hz hsv src hk
      refine .wildV hcl ?_ (.grown r2 r3 r4 r5)
      rw [exe]
      simp only [builtin, Sem.run_bind, Sem.run_pure, r1, Result.andThen_ok]
    split at hk
    · rename_i e e2 d1 d2
      rw [d1] at hT; rw [d2] at hT2
      obtain ⟨_, k2⟩ := ifN_elim hk
      exact key e hT (.inl ⟨_, hT2⟩) k2
    · rename_i e d1 d2
      rw [d1] at hT; rw [d2] at hT2
      exact key e hT (.inr hT2) hk
    · exact hk.elim
  · -- len
    rename_i t ts' x' _ _
    cases hargs with
    | @cons _ xv _ _ hxv hr1 =>
    cases hr1
    have hT := (hty t).d
    have fin : ∀ n : Int, ((∀ k e, (cx.ti t).d ≠ .map k e) ∧ (∀ w, (Builtin.len_ (t :: ts').toArray o.type #[xv]).run cx.P w = .ok (.int .i64 n) w) ∨ (∃ k e, (cx.ti t).d = .map k e) ∧ (Builtin.len_ (t :: ts').toArray o.type #[xv]).run cx.P w = .ok (.int .i64 n) w) → K (.v (.int .i64 n)) fr.loc h → Step cx o a w (Done K h0 w0 g0 g l fr.loc) := by
      intro n hn hk
      simp only [clsB] at hcl
      rcases hn with ⟨hd, hn⟩ | ⟨⟨k, e, hd⟩, hn⟩
      · refine .pureV (hcl.trans ?_) (fun u => ?_) (.pure s hk (VR.int _ _))
        · cases hdd : (cx.ti t).d <;> first | rfl | exact absurd hdd (hd _ _)
        · rw [exe]
          simp only [builtin, Sem.run_bind, Sem.run_pure, hn, Result.andThen_ok]
      refine .wildV (hcl.trans (by rw [hd])) ?_ (.pure s hk (VR.int _ _))
      rw [exe]
      simp only [builtin, Sem.run_bind, Sem.run_pure, hn, Result.andThen_ok]
    unfold lenP at hk
    cases hd : (cx.ti t).d <;> rw [hd] at hk hT <;> simp only [TDok] at hT hk
    · cases hxv <;> simp only at hk
      rename_i q
      have hsz : (⟨q.toArray⟩ : ByteArray).size = q.length := rfl
      exact fin _ (.inl ⟨by rw [hd]; simp, fun w => by simp [Builtin.len_, run_under hT, goInt, hsz]⟩) hk
    · unfold lenL at hk
      cases hxv <;> simp only at hk
      · exact fin _ (.inl ⟨by rw [hd]; simp, fun w => by simp [Builtin.len_, run_under hT, goInt]⟩) hk
      · exact fin _ (.inl ⟨by rw [hd]; simp, fun w => by simp [Builtin.len_, run_under hT, goInt]⟩) hk
      · exact fin _ (.inl ⟨by rw [hd]; simp, fun w => by simp [Builtin.len_, run_under hT, goInt]⟩) hk
    · unfold lenM at hk
      cases hxv <;> simp only at hk
      rename_i r
      cases r with
      | none => exact fin _ (.inr ⟨⟨_, _, hd⟩, by simp [Builtin.len_, run_under hT, goInt]⟩) hk
      | some r =>
        simp only at hk
        cases hb : h.m r with
        | none => rw [hb] at hk; exact hk.elim
        | some ob =>
          rw [hb] at hk
          cases ob with
          | map es clock =>
            obtain ⟨⟨x, hx1, hx2⟩, _⟩ := s.rel.mm r _ hb
            cases x <;> simp only [OR] at hx2
            obtain ⟨rfl, hx2⟩ := hx2
            rename_i es' _
            have hl : es.length = es'.size := by
              have : ∀ {xs : List (AV × AV × Nat)} {ys : List MapEntry}, ERs g xs ys → xs.length = ys.length := by
                intro xs ys h
                induction h with
                | nil => rfl
                | cons _ _ ih => simp [ih]
              have := this hx2
              simpa using this
            simp only [hl] at hk
            have hg : ∀ (es : Array MapEntry) (c : Nat), w.heap[r]? = some (.map es c) → (getObj r).run cx.P w = .ok (.map es c) w := fun es c h => by simp [getObj, Sem.run, h]
            exact fin _ (.inr ⟨⟨_, _, hd⟩, by simp [Builtin.len_, run_under hT, goInt, hg _ _ hx1]⟩) hk
          | cells _ _ => exact hk.elim
          | iter _ _ _ _ => exact hk.elim
  · -- delete
    rename_i t ts' m' k' _ _
    cases hargs with
    | @cons _ mv _ _ hmv hr1 =>
    cases hr1 with
    | @cons _ kv _ _ hkv hr2 =>
    cases hr2
    have hT := (hty t).d
    cases hd : (cx.ti t).d <;> rw [hd] at hk hT <;> simp only [TDok] at hT hk
    rename_i kt et
    cases hkt : keyTD (cx.ti kt).d <;> rw [hkt] at hk <;> simp only at hk
    obtain ⟨h', w', hr, hk, s'⟩ := delete_sound (ty := o.type) (ts := ts') hty s hT hkt hmv hkv hk
    refine .wildV hcl ?_ (.grown hk s' (.refl g) (VR.tup [] [] .nil))
    rw [exe]
    simp only [builtin, Sem.run_bind, Sem.run_pure, hr, Result.andThen_ok]
  · -- min
    obtain ⟨e, k2⟩ := ifN_elim hk
    clear hk
    obtain rfl := ik_inj e
    cases hargs with
    | @cons _ xv _ _ hxv hr1 =>
    cases hr1 with
    | @cons _ yv _ _ hyv hr2 =>
    cases hr2; cases hxv; cases hyv
    refine .pureV hcl (fun u => ?_) (.pure s k2 (VR.int _ _))
    rw [exe]
    simp [builtin, Builtin.min_, Builtin.min2]
  · -- max
    obtain ⟨e, k2⟩ := ifN_elim hk
    clear hk
    obtain rfl := ik_inj e
    cases hargs with
    | @cons _ xv _ _ hxv hr1 =>
    cases hr1 with
    | @cons _ yv _ _ hyv hr2 =>
    cases hr2; cases hxv; cases hyv
    refine .pureV hcl (fun u => ?_) (.pure s k2 (VR.int _ _))
    rw [exe]
    simp [builtin, Builtin.max_, Builtin.max2]
  · -- copy
    rename_i t ts' d x' _ _
    cases hargs with
    | @cons _ dv _ _ hdv hr1 =>
    cases hr1 with
    | @cons _ xv _ _ hxv hr2 =>
    cases hr2
    have hT := (hty t).d
    cases hd : (cx.ti t).d <;> rw [hd] at hk hT <;> simp only [TDok] at hT hk
    rename_i e
    obtain ⟨hde, hk⟩ := knownP_elim hk
    obtain ⟨ys, us, hk, src⟩ := rdP_elim (P := cx.P) s.rel (hty e) hde hxv hk
    cases hdv with
    | sl b off len cap =>
      simp only at hk
      have hmin : Nat.min ys.length len ≤ ys.length := Nat.min_le_left _ _
      have hfirst := src.first _ hmin w rfl
      have e1 : (ys.take len).flatMap AV.cells = (ys.flatMap AV.cells).take (Nat.min ys.length len * (cx.ti e).size) := by
        rw [take_flat src.each]
        by_cases hn : len ≤ ys.length
        · rw [show Nat.min ys.length len = len from Nat.min_eq_right hn]
        · have h1 := flat_len src.each
          rw [show Nat.min ys.length len = ys.length from Nat.min_eq_left (by omega), List.take_of_length_le, List.take_of_length_le]
          · rw [h1]; exact Nat.le_refl _
          · rw [h1]; exact Nat.mul_le_mul_right _ (by omega)
      have hvr : VRs g ((ys.take len).flatMap AV.cells) (us.take (Nat.min ys.length len * (cx.ti e).size)) := by rw [e1]; exact src.vr.take _
      obtain ⟨ad, h', w', e1, ⟨hel, hk⟩, s', hst⟩ := stM_sound (P := cx.P) s (VR.ptr b off) hvr hk
      cases e1
      refine .wildV hcl (w' := w') (v := .int .i64 (Nat.min ys.length len : Nat)) ?_ (.grown hk s' (.refl g) (VR.int _ _))
      rw [exe]
      have hst' : (storeCells ⟨b, off, none⟩ (us.take (Nat.min ys.length len * (cx.ti e).size)).toArray.toList).run cx.P w = .ok () w' := hst
      simp only [builtin, Builtin.copy_, run_under hT, src.lenOf, run_size (hty e) hde, hfirst, goInt, Sem.run_bind, Sem.run_pure, Result.andThen_ok, List.getElem?_toArray, List.getElem?_cons_zero, List.getElem?_cons_succ, hst']
    | _ => exact hk.elim
  · exact hk.elim

end
end Go.AM
