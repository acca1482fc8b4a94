/-
  Regions, loops, code: the transformer is sound.
-/
import Derived.Test.YtdeabkkgmlimfaaGreatDoorAmb

set_option linter.unusedVariables false
set_option linter.unusedSimpArgs false

namespace Go.AM
open Go

section
variable {cx : Cx} {o : Oper} {fr : Fr} {h0 h : H} {w0 w : World} {g0 g : Gh} {l : List Nat} {a : Act} {K : Slot → List Box → H → Prop}

theorem aop_step (hty : TyOK cx) (hgl : GlOK cx.gl g) (s : SI h0 w0 g0 g h l fr.loc w) (hf : FRel g l fr a) {C : FuncId → List AV → H → (AV → H → Prop) → Prop} (hk : aop cx C o fr h K) :
    (∃ c x, o.op = .call c ∧ c.callee = .value x) ∨ Step cx o a w (Done K h0 w0 g0 g l fr.loc) := by
  have red : ∀ {x : Op} (_ : o.op = x), aop cx C { o with op := x } fr h K := by
    rintro x rfl; exact hk
  cases ho : o.op with
  | move x => exact .inr (op_move hgl s hf ho (red ho))
  | assign x => exact .inr (op_assign hgl s hf ho (red ho))
  | pick c x y => exact .inr (op_pick hgl s hf ho (red ho))
  | alloc T => exact .inr (op_alloc hty s ho hk)
  | box T x => exact .inr (op_box hgl s hf ho hk)
  | build T parts => exact .inr (op_build hty hgl s hf ho hk)
  | buildSlice T n parts => exact .inr (op_buildSlice hty hgl s hf ho hk)
  | load T x => exact .inr (op_load hty hgl s hf ho hk)
  | store T x y => exact .inr (op_store hty hgl s hf ho hk)
  | nilCheck x => exact .inr (op_nilCheck hgl s hf ho hk)
  | binOp op t x y yt => exact .inr (op_binOp hty hgl s hf ho hk)
  | unOp op t x => exact .inr (op_unOp hgl s hf ho hk)
  | convert st dt x => exact .inr (op_convert hty hgl s hf ho hk)
  | makeInterface T x => exact .inr (op_makeInterface hty hgl s hf ho hk)
  | makeFunc f x y =>
    cases f with
    | func f => exact .inr (op_makeFunc hgl s hf ho hk)
    | _ => have := red ho; exact this.elim
  | makeMap t r =>
    cases r with
    | none => exact .inr (op_makeMap s ho hk)
    | some _ => have := red ho; exact this.elim
  | slice T x lo hi mx => exact .inr (op_slice hty hgl s hf ho hk)
  | fieldAddr T x f => exact .inr (op_fieldAddr hty hgl s hf ho hk)
  | field T x f => exact .inr (op_field hty hgl s hf ho hk)
  | indexAddr T x ix => exact .inr (op_indexAddr hty hgl s hf ho hk)
  | index T x ix => exact .inr (op_index hty hgl s hf ho hk)
  | extract x i => exact .inr (op_extract hgl s hf ho hk)
  | makeSlice T x y => exact .inr (op_makeSlice hty hgl s hf ho hk)
  | lookup T x k ok => exact .inr (op_lookup hty hgl s hf ho hk)
  | mapUpdate T x k y => exact .inr (op_mapUpdate hty hgl s hf ho hk)
  | call c =>
    cases hcal : c.callee with
    | value x => exact .inl ⟨c, x, rfl, hcal⟩
    | builtin b => exact .inr (op_call_builtin hty hgl s hf ho hcal hk)
    | _ =>
      unfold aop at hk
      simp only [ho, hcal] at hk
      obtain ⟨_, _, hk⟩ := slots_elim hk
      exact hk.elim
  | _ => have := red ho; exact this.elim

theorem aop_sound (hty : TyOK cx) (hgl : GlOK cx.gl g) (s : SI h0 w0 g0 g h l fr.loc w) (hf : FRel g l fr a) (hk : aop cx (ACall cx.P cx.gl) o fr h K) {next : Act → World → Prop} {Q : Exit → Act → World → Prop}
    (hr : ∀ v w', Done K h0 w0 g0 g l fr.loc v w' → next (a.put o.dst v) w') : o.wp cx.P a w next Q := by
  rcases aop_step hty hgl s hf hk with ⟨c, x, ho, hcal⟩ | hs
  · exact op_call_fn hgl s hf ho hcal hk hr
  · exact hs.wp hr

/-- The state of a call, its names forgotten. -/
def St (N : Nat) (pre : List Box) (h0 : H) (w0 : World) (g0 : Gh) (fr : Fr) (h : H) (a : Act) (w : World) : Prop :=
  ∃ g l, SI h0 w0 g0 g h l fr.loc w ∧ FRel g l fr a ∧ fr.sl.length = N ∧ Sig pre fr.loc

def _root_.Go.Exit.tame : Exit → Bool
  | .panic _ | .outgrown => false
  | _ => true

def Post (N : Nat) (pre : List Box) (h0 : H) (w0 : World) (g0 : Gh) (Qx : Exit → Fr → H → Prop) (e : Exit) (a : Act) (w : World) : Prop :=
  e.tame = true ∧ ∃ fr h, Qx e fr h ∧ St N pre h0 w0 g0 fr h a w

theorem set_same {α : Type} : ∀ {xs : List α} {d : Nat} {x : α}, xs[d]? = some x → xs.set d x = xs
  | [], _, _, h => by simp at h
  | y :: ys, 0, x, h => by simp at h; simp [h]
  | y :: ys, d + 1, x, h => by simp at h; simp [set_same h]

theorem put_loc (fr : Fr) (dst : Option Tmp) (s : Slot) (loc : List Box) : (fr.put dst s loc).loc = loc := by cases dst <;> rfl
theorem put_len (fr : Fr) (dst : Option Tmp) (s : Slot) (loc : List Box) : (fr.put dst s loc).sl.length = fr.sl.length := by cases dst <;> simp [Fr.put]

/-- One operation of a region: it is not wanted, or it runs. -/
theorem opP_cases {o : Oper} {ops : Array Oper} {N : Nat} {pre : List Box} {K : Fr → H → Prop} {C : FuncId → List AV → H → (AV → H → Prop) → Prop} (st : St N pre h0 w0 g0 fr h a w) (hk : opP cx C ops.toList o fr h K) :
    (Region.wanted o (yielded ops a.tmps) = false ∧ K (fr.put o.dst undefS fr.loc) h) ∨
    (Region.wanted o (yielded ops a.tmps) = true ∧ aop cx C o fr h fun s loc h' => K (fr.put o.dst s loc) h') := by
  obtain ⟨g, l, s, hf, hN, hsig⟩ := st
  unfold opP at hk
  cases hg : o.guard with
  | none =>
    rw [hg] at hk
    exact .inr ⟨by simp [Region.wanted, hg], hk⟩
  | some jw =>
    obtain ⟨j, want⟩ := jw
    rw [hg] at hk
    simp only [Array.getElem?_toList] at hk
    cases hj : (ops[j]?).bind (·.dst) with
    | none => rw [hj] at hk; exact hk.elim
    | some d =>
      rw [hj] at hk
      simp only at hk
      have hy : ∀ (x : Value), a.tmps[d]? = some x → yielded ops a.tmps j = match x with | .bool b => some b | _ => none := by
        intro x hx
        unfold yielded
        rw [hj]
        simp only [Option.bind_some, hx]
        cases x <;> rfl
      split at hk
      · rename_i c hsl
        have hlt : d < a.tmps.size := by rw [← hf.size]; exact (List.getElem?_eq_some_iff.1 hsl).1
        have hsr := hf.slot d _ _ hsl (Array.getElem?_eq_getElem hlt)
        have hx := Array.getElem?_eq_getElem hlt
        generalize a.tmps[d] = x at hsr hx
        have hxb : x = .bool c := by
          have : VR g (.bool c) x := hsr
          cases this; rfl
        subst hxb
        have hyc := hy _ hx
        simp only at hyc
        have hset : ∀ b, b = c → (⟨fr.sl.set d (.v (.bool b)), fr.loc⟩ : Fr) = fr := by
          rintro b rfl; rw [set_same hsl]
        rcases ifB_elim hk with ⟨rfl, hk⟩ | ⟨rfl, hk⟩
        · rw [hset true rfl] at hk
          cases want with
          | true => exact .inr ⟨by simp [Region.wanted, hg, hyc], hk⟩
          | false => exact .inl ⟨by simp [Region.wanted, hg, hyc], hk⟩
        · rw [hset false rfl] at hk
          cases want with
          | false => exact .inr ⟨by simp [Region.wanted, hg, hyc], hk⟩
          | true => exact .inl ⟨by simp [Region.wanted, hg, hyc], hk⟩
      · rename_i hsl
        have hlt : d < a.tmps.size := by rw [← hf.size]; exact (List.getElem?_eq_some_iff.1 hsl).1
        have hsr := hf.slot d _ _ hsl (Array.getElem?_eq_getElem hlt)
        have hx := Array.getElem?_eq_getElem hlt
        generalize a.tmps[d] = x at hsr hx
        have hxb : x = .tuple #[] := by
          have : VR g (.tup []) x := hsr
          cases this with
          | tup _ vs hvs => cases hvs; rfl
        subst hxb
        have hyc := hy _ hx
        simp only at hyc
        exact .inl ⟨by simp [Region.wanted, hg, hyc], hk⟩
      · exact hk.elim

theorem St.skip {N : Nat} {pre : List Box} (st : St N pre h0 w0 g0 fr h a w) (o : Oper) : St N pre h0 w0 g0 (fr.put o.dst undefS fr.loc) h (a.put o.dst undef) w := by
  obtain ⟨g, l, s, hf, hN, hsig⟩ := st
  exact ⟨g, l, by rw [put_loc]; exact s, hf.put o.dst undef_sr fr.loc, by rw [put_len]; exact hN, by rw [put_loc]; exact hsig⟩

theorem wops_sound (hty : TyOK cx) (hgl : GlOK cx.gl g0) {N : Nat} {pre : List Box} {ops : Array Oper} {Qx : Exit → Fr → H → Prop} :
    ∀ (rest : List Oper) (i : Nat) (fr : Fr) (h : H) (a : Act) (w : World), ops.toList.drop i = rest → wops cx (ACall cx.P cx.gl) ops.toList Qx rest fr h → St N pre h0 w0 g0 fr h a w →
      wpOps cx.P ops (Post N pre h0 w0 g0 Qx) (List.range' i rest.length) a w
  | [], i, fr, h, a, w, _, hk, st => ⟨rfl, fr, h, hk, st⟩
  | o :: rest, i, fr, h, a, w, hd, hk, st => by
    have ho : ops[i]? = some o := by
      have : (ops.toList.drop i)[0]? = some o := by rw [hd]; rfl
      simpa using this
    have hd' : ops.toList.drop (i + 1) = rest := by
      rw [← List.drop_drop, hd]; rfl
    have ih := wops_sound hty hgl (N := N) (pre := pre) (ops := ops) (Qx := Qx) rest (i + 1)
    simp only [List.length_cons, List.range'_succ, wpOps, ho]
    rcases opP_cases st hk with ⟨hw, hk⟩ | ⟨hw, hk⟩
    · rw [if_neg (by simp [hw])]
      exact ih _ h _ w hd' hk (st.skip o)
    · rw [if_pos hw]
      obtain ⟨g, l, s, hf, hN, hsig⟩ := st
      refine .inl (aop_sound hty (hgl.mono s.inv.le) s hf hk ?_)
      rintro v w' ⟨g', l', s', loc', h', hs1, hk', hs2, hle, hl, hsr⟩
      exact ih _ h' _ w' hd' hk' ⟨g', l', by rw [put_loc]; exact hs2, (hf.mono hle hl).put o.dst hsr loc', by rw [put_len]; exact hN, by rw [put_loc]; exact hsig.trans hs1⟩
end
end Go.AM

namespace Go.AM
open Go

/-- An operation yields the same in all worlds that come of this one. -/
def YieldsS (S : World → World → Prop) (P : Program) (ops : Array Oper) (o : Oper) (v : Value) (a : Act) (w : World) : Prop :=
  (Region.wanted o (yielded ops a.tmps) = true ∧ ∀ u, S w u → (execOp a.eval o).run P u = .ok (.value v) u) ∨
  (Region.wanted o (yielded ops a.tmps) = false ∧ v = undef)

section
variable {S : World → World → Prop} {cx : Cx} {P : Program} {ops : Array Oper} {Q : Exit → Act → World → Prop}

theorem YieldsS.of_same {o : Oper} {v : Value} {a a' : Act} {w : World} (hy : YieldsS S P ops o v a w) (he : execOp a'.eval o = execOp a.eval o)
    (hw : Region.wanted o (yielded ops a'.tmps) = Region.wanted o (yielded ops a.tmps)) : YieldsS S P ops o v a' w := by
  unfold YieldsS at *
  rw [he, hw]
  exact hy

theorem YieldsS.later {o : Oper} {v : Value} {a : Act} {w w' : World} (ht : ∀ u, S w' u → S w u) (hy : YieldsS S P ops o v a w) : YieldsS S P ops o v a w' := by
  rcases hy with ⟨h1, h2⟩ | h
  · exact .inl ⟨h1, fun u hu => h2 u (ht u hu)⟩
  · exact .inr h

/-- One operation, and what it leaves of memory. -/
def wpOpG (cx : Cx) (P : Program) (ops : Array Oper) (Q : Exit → Act → World → Prop) (i : Nat) (K : Act → World → Prop) (a : Act) (w : World) : Prop :=
  wpOp P ops Q i (fun a' w' => (∀ o, ops[i]? = some o → cls cx o ≠ .wild → Sub w w') ∧ K a' w') a w

def wpAnyG (cx : Cx) (P : Program) (ops : Array Oper) (Q : Exit → Act → World → Prop) : Nat → Array Bool → Act → World → Prop
  | 0, listed, a, w => Region.ready .any ops listed = [] ∧ Q .normal a w
  | fuel + 1, listed, a, w =>
    (Region.ready .any ops listed = [] → Q .normal a w) ∧
    ∀ i ∈ Region.ready .any ops listed, wpOpG cx P ops Q i (wpAnyG cx P ops Q fuel (listed.setIfInBounds i true)) a w

theorem wpOpG_mono {i : Nat} {K K' : Act → World → Prop} {a : Act} {w : World} (h : ∀ a w, K a w → K' a w) (hh : wpOpG cx P ops Q i K a w) : wpOpG cx P ops Q i K' a w :=
  wpOp_mono (fun _ _ hx => ⟨hx.1, h _ _ hx.2⟩) hh

theorem wpAnyG_any : ∀ (fuel : Nat) (listed : Array Bool) (a : Act) (w : World), wpAnyG cx P ops Q fuel listed a w → wpAny P .any ops Q fuel listed a w
  | 0, _, _, _, h => h
  | fuel + 1, listed, a, w, h => ⟨h.1, fun i hi => wpOp_mono (fun a' w' hx => wpAnyG_any fuel _ a' w' hx.2) (h.2 i hi)⟩

theorem YieldsS.wpOpG {i : Nat} {o : Oper} {v : Value} {a : Act} (hi : ops[i]? = some o) {K : Act → World → Prop} {w : World} (hS : S w w) (hy : YieldsS S P ops o v a w) (h : K (a.put o.dst v) w) : wpOpG cx P ops Q i K a w := by
  unfold Go.AM.wpOpG Go.wpOp
  simp only [hi]
  rcases hy with ⟨hw, hv⟩ | ⟨hw, rfl⟩
  · simp only [hw, if_true, Oper.wp, hv w hS, Oper.upon]; exact .inl ⟨fun _ _ _ => .refl w, h⟩
  · simp only [hw, Bool.false_eq_true, if_false]; exact ⟨fun _ _ _ => .refl w, h⟩

/-- Another operation comes first. -/
theorem wpOpG_put {j : Nat} {oi oj : Oper} {v : Value} (hj : ops[j]? = some oj) (hap : oi.apart ops oj = true)
    (hsi : ∀ cs b, oi.op ≠ .select cs b) (hsj : ∀ cs b, oj.op ≠ .select cs b)
    (hQ : ∀ c a w, Q (.panic c) (a.put oi.dst v) w → Q (.panic c) a w) {K : Act → World → Prop} {a : Act} {w : World}
    (hS : ∀ w', (cls cx oj ≠ .wild → Sub w w') → ∀ u, S w' u → S w u)
    (hy : YieldsS S P ops oi v a w) (h : wpOpG cx P ops Q j K (a.put oi.dst v) w) :
    wpOpG cx P ops Q j (fun a' w' => YieldsS S P ops oi v a' w' ∧ K (a'.put oi.dst v) w') a w := by
  obtain ⟨h1, h2, h3⟩ := Oper.apart_spec hap
  have keep : ∀ (a : Act) w', YieldsS S P ops oi v a w' → ∀ u, YieldsS S P ops oi v (a.put oj.dst u) w' := fun a w' hy u =>
    hy.of_same (execOp_put oi hsi a oj.dst u h3) (wanted_put oi a oj.dst u h3)
  have keepD : ∀ w' d, YieldsS S P ops oi v a w' → YieldsS S P ops oi v { a with defers := d :: a.defers } w' := fun w' d hy => hy.of_same rfl rfl
  have lat : ∀ w', (∀ o, ops[j]? = some o → cls cx o ≠ .wild → Sub w w') → YieldsS S P ops oi v a w' := fun w' hw => hy.later (hS w' (hw oj hj))
  unfold wpOpG wpOp at *
  simp only [hj] at *
  rw [wanted_put oj a oi.dst v h1] at h
  split
  · rename_i hw
    simp only [hw, if_true] at h
    rcases h with h | ⟨hasks, hlets⟩
    case inr => exact .inr ⟨by unfold Oper.asks at *; rw [execOp_put oj hsj a oi.dst v h1] at hasks; exact hasks, hlets⟩
    refine .inl ?_
    unfold Oper.wp at *
    rw [execOp_put oj hsj a oi.dst v h1] at h
    generalize (execOp a.eval oj).run P w = r at *
    cases r with
    | ok n w' =>
      cases n <;> simp only [Oper.upon] at h ⊢
      case value u => exact ⟨h.1, keep a _ (lat _ h.1) u, by rw [← Act.put_comm a v u h2]; exact h.2⟩
      case skip => exact ⟨h.1, keep a _ (lat _ h.1) _, by rw [← Act.put_comm a v undef h2]; exact h.2⟩
      case defer d =>
        refine ⟨h.1, keep _ _ (keepD _ d (lat _ h.1)) _, ?_⟩
        rw [← Act.put_comm _ v undef h2, ← Act.put_defers]
        exact h.2
      case enter f args =>
        refine Calls.mono h fun e w'' he => ?_
        cases e with
        | returned u => exact ⟨he.1, keep a _ (lat _ he.1) u, by rw [← Act.put_comm a v u h2]; exact he.2⟩
        | panicked c => exact hQ _ _ _ he
        | outgrown => exact he
      case row row args => exact Go.Rows.mono h fun u w'' he => ⟨he.1, keep a _ (lat _ he.1) u, by rw [← Act.put_comm a v u h2]; exact he.2⟩
    | halt x w' =>
      cases x <;> simp only [Oper.upon] at h ⊢
      case panic u => exact hQ _ _ _ h
  · rename_i hw
    simp only [hw] at h
    exact ⟨h.1, keep a _ hy _, by rw [← Act.put_comm a v undef h2]; exact h.2⟩

theorem wpAnyG_first {i : Nat} {oi : Oper} {v : Value} (hi : ops[i]? = some oi) (hsel : ∀ (j : Nat) (o : Oper) cs b, ops[j]? = some o → o.op ≠ .select cs b)
    (hQ : ∀ c a w, Q (.panic c) (a.put oi.dst v) w → Q (.panic c) a w) (hrefl : ∀ w, S w w) :
    ∀ (fuel : Nat) (listed : Array Bool) (a : Act) (w : World),
      (∀ j oj, ops[j]? = some oj → j ≠ i → listed.getD j true = false → (∀ e ∈ oj.after, Region.binds .any e = true → e.on ≠ i) → oi.apart ops oj = true ∧ ∀ w w', (cls cx oj ≠ .wild → Sub w w') → ∀ u, S w' u → S w u) →
      i ∈ Region.ready .any ops listed → YieldsS S P ops oi v a w →
      wpAnyG cx P ops Q fuel (listed.setIfInBounds i true) (a.put oi.dst v) w → wpAnyG cx P ops Q (fuel + 1) listed a w := by
  intro fuel
  induction fuel with
  | zero =>
    intro listed a w _ hr hy H
    refine ⟨fun h => (by rw [h] at hr; cases hr), fun j hj => ?_⟩
    by_cases hji : j = i
    · subst hji; exact hy.wpOpG hi (hrefl w) H
    · have := ready_mono hj hji
      rw [H.1] at this
      cases this
  | succ fuel ih =>
    intro listed a w hfree hr hy H
    refine ⟨fun h => (by rw [h] at hr; cases hr), fun j hj => ?_⟩
    by_cases hji : j = i
    · subst hji; exact hy.wpOpG hi (hrefl w) H
    · have h1 := H.2 j (ready_mono hj hji)
      obtain ⟨hjun, oj, hoj, hall⟩ := mem_ready.1 hj
      have hnot : ∀ e ∈ oj.after, Region.binds .any e = true → e.on ≠ i := fun e he hb heq => by
        have h1 := hall e he hb
        have h0 := (mem_ready.1 hr).1
        rw [heq] at h1
        rcases Nat.lt_or_ge i listed.size with h' | h'
        · simp [h'] at h0 h1; rw [h0] at h1; cases h1
        · simp [Array.getElem?_eq_none h'] at h1
      obtain ⟨hap, hS⟩ := hfree j oj hoj hji hjun hnot
      have h2 := wpOpG_put hoj hap (fun cs b => hsel i oi cs b hi) (fun cs b => hsel j oj cs b hoj) hQ (hS w) hy h1
      have hfree' : ∀ k ok, ops[k]? = some ok → k ≠ i → (listed.setIfInBounds j true).getD k true = false →
          (∀ e ∈ ok.after, Region.binds .any e = true → e.on ≠ i) → oi.apart ops ok = true ∧ ∀ w w', (cls cx ok ≠ .wild → Sub w w') → ∀ u, S w' u → S w u := fun k ok hk hki hun hno => by
        refine hfree k ok hk hki ?_ hno
        by_cases hjk : j = k
        · subst hjk; exact hjun
        · rw [getD_set_ne true hjk] at hun; exact hun
      refine wpOpG_mono (fun a' w' h3 => ih (listed.setIfInBounds j true) a' w' hfree' (ready_mono hr (Ne.symm hji)) h3.1 ?_) h2
      rw [Array.setIfInBounds_comm _ _ hji]
      exact h3.2
end

section
variable {cx : Cx} {h0 : H} {w0 : World} {g0 : Gh}

theorem allP_mem : ∀ {l : List Nat} {f : Nat → Prop}, allP l f → ∀ i ∈ l, f i
  | [], _, _, i, hi => by simp at hi
  | [j], f, h, i, hi => by simp at hi; subst hi; exact h
  | j :: k :: r, f, h, i, hi => by
    rcases List.mem_cons.1 hi with rfl | hi
    · exact h.1
    · exact allP_mem h.2 i hi

theorem bitB_eq (m i : Nat) : bitB m i = m.testBit i := by
  unfold bitB Nat.testBit
  show Nat.beq ((m >>> i) &&& 1) 1 = (1 &&& (m >>> i) != 0)
  rw [Nat.and_comm, Nat.one_and_eq_mod_two]
  rcases Nat.mod_two_eq_zero_or_one (m >>> i) with h | h <;> rw [h] <;> rfl

theorem orBits_bit : ∀ (l : List Nat) (i : Nat), (orBits l).testBit i = true ↔ i ∈ l
  | [], i => by simp [orBits]
  | k :: l, i => by
    show ((2 ^ k) ||| orBits l).testBit i = true ↔ _
    rw [Nat.testBit_or, Bool.or_eq_true, orBits_bit l i, Nat.testBit_two_pow, List.mem_cons]
    simp [eq_comm]

theorem land_dep {l : List Nat} {done : Nat} : Nat.land (orBits l) done = orBits l ↔ ∀ i ∈ l, done.testBit i = true := by
  show (orBits l) &&& done = orBits l ↔ _
  constructor
  · intro h i hi
    have h1 := (orBits_bit l i).2 hi
    rw [← h, Nat.testBit_and, Bool.and_eq_true] at h1
    exact h1.2
  · intro h
    apply Nat.eq_of_testBit_eq
    intro i
    rw [Nat.testBit_and]
    cases hb : (orBits l).testBit i with
    | false => rfl
    | true => rw [h i ((orBits_bit l i).1 hb)]; rfl

/-- What is done, as bits. -/
structure DoneIs (ops : Array Oper) (listed : Array Bool) (done : Nat) : Prop where
  size : listed.size = ops.size
  bit : ∀ i, done.testBit i = listed.getD i false

theorem DoneIs.true_ {ops : Array Oper} {listed : Array Bool} {done : Nat} (h : DoneIs ops listed done) {i : Nat} (hi : i < ops.size) : listed.getD i true = done.testBit i := by
  rw [h.bit]
  have : i < listed.size := by rw [h.size]; exact hi
  simp [this]

theorem DoneIs.set {ops : Array Oper} {listed : Array Bool} {done : Nat} (h : DoneIs ops listed done) {i : Nat} (hi : i < ops.size) : DoneIs ops (listed.setIfInBounds i true) (Nat.lor (Nat.pow 2 i) done) := by
  refine ⟨by simp [h.size], fun k => ?_⟩
  show ((2 ^ i) ||| done).testBit k = _
  rw [Nat.testBit_or, Nat.testBit_two_pow, h.bit]
  have hs : i < listed.size := by rw [h.size]; exact hi
  by_cases hk : i = k
  · subst hk; simp [hs]
  · rw [getD_set_ne false hk]; simp [hk]

theorem rdyGo_mem {done : Nat} : ∀ {xs : List Inf} {k j : Nat}, j ∈ rdyGo done k xs ↔ ∃ x, k ≤ j ∧ xs[j - k]? = some x ∧ done.testBit j = false ∧ Nat.land x.dep done = x.dep
  | [], k, j => by simp [rdyGo]
  | x :: xs, k, j => by
    have ih := rdyGo_mem (done := done) (xs := xs) (k := k + 1) (j := j)
    have hsucc : k + 1 ≤ j → (x :: xs)[j - k]? = xs[j - (k + 1)]? := fun h => by
      rw [show j - k = (j - (k + 1)) + 1 from by omega]; rfl
    have up : (∃ y, k + 1 ≤ j ∧ xs[j - (k + 1)]? = some y ∧ done.testBit j = false ∧ Nat.land y.dep done = y.dep) → ∃ y, k ≤ j ∧ (x :: xs)[j - k]? = some y ∧ done.testBit j = false ∧ Nat.land y.dep done = y.dep := by
      rintro ⟨y, h1, h2, h3, h4⟩
      exact ⟨y, by omega, by rw [hsucc h1]; exact h2, h3, h4⟩
    have down : (∃ y, k ≤ j ∧ (x :: xs)[j - k]? = some y ∧ done.testBit j = false ∧ Nat.land y.dep done = y.dep) → j ≠ k → ∃ y, k + 1 ≤ j ∧ xs[j - (k + 1)]? = some y ∧ done.testBit j = false ∧ Nat.land y.dep done = y.dep := by
      rintro ⟨y, h1, h2, h3, h4⟩ hne
      have h5 : k + 1 ≤ j := by omega
      exact ⟨y, h5, by rw [← hsucc h5]; exact h2, h3, h4⟩
    have at0 : (∃ y, k ≤ j ∧ (x :: xs)[j - k]? = some y ∧ done.testBit j = false ∧ Nat.land y.dep done = y.dep) → j = k → done.testBit k = false ∧ Nat.land x.dep done = x.dep := by
      rintro ⟨y, h1, h2, h3, h4⟩ rfl
      simp at h2
      subst h2
      exact ⟨h3, h4⟩
    simp only [rdyGo]
    rw [bitB_eq]
    cases hb : done.testBit k with
    | true =>
      simp only
      rw [ih]
      refine ⟨up, fun h => down h fun hj => ?_⟩
      have := (at0 h hj).1
      rw [hb] at this; cases this
    | false =>
      simp only
      cases hd : Nat.beq (Nat.land x.dep done) x.dep with
      | true =>
        have hd := Nat.eq_of_beq_eq_true hd
        simp only [List.mem_cons]
        rw [ih]
        constructor
        · rintro (rfl | h)
          · exact ⟨x, Nat.le_refl _, by simp, hb, hd⟩
          · exact up h
        · intro h
          by_cases hj : j = k
          · exact .inl hj
          · exact .inr (down h hj)
      | false =>
        have hd := Nat.ne_of_beq_eq_false hd
        simp only
        rw [ih]
        refine ⟨up, fun h => down h fun hj => ?_⟩
        exact hd (at0 h hj).2

theorem mem_rdy {ops : Array Oper} {listed : Array Bool} {done : Nat} (hd : DoneIs ops listed done) {j : Nat} :
    j ∈ rdyGo done 0 (ops.toList.map (infOf cx ops)) ↔ j ∈ Region.ready .any ops listed := by
  rw [rdyGo_mem, mem_ready]
  constructor
  · rintro ⟨x, _, h1, h2, h3⟩
    rw [Nat.sub_zero, List.getElem?_map, Array.getElem?_toList] at h1
    cases ho : ops[j]? with
    | none => rw [ho] at h1; cases h1
    | some o =>
      rw [ho] at h1
      simp only [Option.map_some, Option.some.injEq] at h1
      subst h1
      refine ⟨?_, o, rfl, fun e he hb => ?_⟩
      · rw [hd.true_ (Array.getElem?_eq_some_iff.1 ho).1]; exact h2
      · rw [← hd.bit]
        exact land_dep.1 h3 e.on (List.mem_map.2 ⟨e, List.mem_filter.2 ⟨by simpa using he, hb⟩, rfl⟩)
  · rintro ⟨h1, o, ho, h2⟩
    refine ⟨infOf cx ops o, Nat.zero_le _, ?_, ?_, ?_⟩
    · rw [Nat.sub_zero, List.getElem?_map, Array.getElem?_toList, ho]; rfl
    · rw [← hd.true_ (Array.getElem?_eq_some_iff.1 ho).1]; exact h1
    · refine land_dep.2 fun i hi => ?_
      obtain ⟨e, he, rfl⟩ := List.mem_map.1 hi
      obtain ⟨he, hb⟩ := List.mem_filter.1 he
      rw [hd.bit]
      exact h2 e (by simpa using he) hb

theorem apartM_spec {ops : Array Oper} {x y : Oper} (h : apartM (infOf cx ops x) (infOf cx ops y) = true) : x.apart ops y = true := by
  have hm : ∀ (o : Oper) (d : Nat), bitB (infOf cx ops o).look d = false → (o.looksAt ops).contains d = false := by
    intro o d hb
    rw [bitB_eq] at hb
    cases hc : (o.looksAt ops).contains d with
    | false => rfl
    | true =>
      have : d ∈ o.looksAt ops := by simpa using hc
      have := (orBits_bit (o.looksAt ops) d).2 this
      rw [show (infOf cx ops o).look = orBits (o.looksAt ops) from rfl] at hb
      rw [hb] at this; cases this
  unfold apartM at h
  unfold Oper.apart
  have e1 : (infOf cx ops x).dst = x.dst := rfl
  have e2 : (infOf cx ops y).dst = y.dst := rfl
  rw [e1, e2] at h
  rw [Bool.and_eq_true]
  split at h
  · cases h
  · rename_i h0
    constructor
    · cases hx : x.dst with
      | none => rfl
      | some d =>
        rw [hx] at h0
        simp only at h0
        cases hb : bitB (infOf cx ops y).look d with
        | true => rw [hb] at h0; cases h0
        | false =>
          rw [hb] at h0
          simp only at h0
          simp only [hm y d hb, Bool.not_false, Bool.true_and]
          cases hy : y.dst with
          | none => rfl
          | some d' =>
            rw [hy] at h0
            simp only [Bool.not_eq_true'] at h0
            have := Nat.ne_of_beq_eq_false h0
            simp [this]
    · cases hy : y.dst with
      | none => rfl
      | some d =>
        rw [hy] at h
        simp only [Bool.not_eq_true'] at h
        simp only [hm x d h, Bool.not_false]

theorem okGo_spec {done i : Nat} {xi : Inf} {calm : Bool} : ∀ {xs : List Inf} {k : Nat}, okGo done i xi calm k xs = true → ∀ (j : Nat) (x : Inf), k ≤ j → xs[j - k]? = some x → j ≠ i → done.testBit j = false → x.dep.testBit i = false →
    apartM xi x = true ∧ (calm = true → x.cls ≠ .wild)
  | [], k, _, j, x, _, h, _, _, _ => by simp at h
  | y :: ys, k, hok, j, x, hk, hx, hne, hd, hdep => by
    simp only [okGo] at hok
    have next : okGo done i xi calm (k + 1) ys = true → j ≠ k → apartM xi x = true ∧ (calm = true → x.cls ≠ .wild) := by
      intro h hjk
      refine okGo_spec h j x (by omega) ?_ hne hd hdep
      rw [show j - k = (j - (k + 1)) + 1 from by omega] at hx
      exact hx
    by_cases hjk : j = k
    · subst hjk
      rw [Nat.sub_self] at hx
      simp at hx
      subst hx
      have e1 : Nat.beq j i = false := by
        cases h : Nat.beq j i with
        | false => rfl
        | true => exact absurd (Nat.eq_of_beq_eq_true h) hne
      rw [e1, bitB_eq, hd, bitB_eq, hdep] at hok
      simp only at hok
      cases ha : apartM xi y with
      | false => rw [ha] at hok; cases hok
      | true =>
        rw [ha] at hok
        simp only at hok
        refine ⟨rfl, fun hc hw => ?_⟩
        rw [hc, hw] at hok
        cases hok
    · split at hok
      · exact next hok hjk
      · split at hok
        · exact next hok hjk
        · split at hok
          · exact next hok hjk
          · split at hok
            · cases hok
            · split at hok
              · cases hok
              · exact next hok hjk

theorem ok_free {ops : Array Oper} {listed : Array Bool} {done i : Nat} (hd : DoneIs ops listed done) {o : Oper} {calm : Bool} (h : okGo done i (infOf cx ops o) calm 0 (ops.toList.map (infOf cx ops)) = true)
    (j : Nat) (oj : Oper) (hj : ops[j]? = some oj) (hne : j ≠ i) (hun : listed.getD j true = false) (hno : ∀ e ∈ oj.after, Region.binds .any e = true → e.on ≠ i) :
    o.apart ops oj = true ∧ (calm = true → cls cx oj ≠ .wild) := by
  have := okGo_spec h j (infOf cx ops oj) (Nat.zero_le _) (by rw [Nat.sub_zero, List.getElem?_map, Array.getElem?_toList, hj]; rfl) hne
    (by rw [← hd.true_ (Array.getElem?_eq_some_iff.1 hj).1]; exact hun) (by
      cases hb : (infOf cx ops oj).dep.testBit i with
      | false => rfl
      | true =>
        have hm := (orBits_bit _ i).1 hb
        obtain ⟨e, he, rfl⟩ := List.mem_map.1 hm
        obtain ⟨he, hb⟩ := List.mem_filter.1 he
        exact absurd rfl (hno e (by simpa using he) hb))
  exact ⟨apartM_spec this.1, this.2⟩

theorem wany_sound (hty : TyOK cx) (hgl : GlOK cx.gl g0) {N : Nat} {pre : List Box} {ops : Array Oper} {Qx : Exit → Fr → H → Prop} (hns : Region.noSelect ops = true) :
    ∀ (fuel : Nat) (done : Nat) (listed : Array Bool) (fr : Fr) (h : H) (a : Act) (w : World), DoneIs ops listed done → wany cx (ACall cx.P cx.gl) ops (ops.toList.map (infOf cx ops)) Qx fuel done fr h → St N pre h0 w0 g0 fr h a w →
      wpAnyG cx cx.P ops (Post N pre h0 w0 g0 Qx) fuel listed a w
  | 0, done, listed, fr, h, a, w, hdn, hk, st => by
    unfold wany at hk
    cases hr : rdyGo done 0 (ops.toList.map (infOf cx ops)) with
    | nil =>
      rw [hr] at hk
      refine ⟨?_, rfl, fr, h, hk, st⟩
      cases hr2 : Region.ready .any ops listed with
      | nil => rfl
      | cons j r => have := (mem_rdy hdn (j := j) (cx := cx)).2 (by rw [hr2]; simp); rw [hr] at this; cases this
    | cons i r => rw [hr] at hk; exact hk.elim
  | fuel + 1, done, listed, fr, h, a, w, hdn, hk, st => by
    unfold wany at hk
    have hQ : ∀ (d : Option Tmp) (v : Value) c (a : Act) w, Post N pre h0 w0 g0 Qx (.panic c) (a.put d v) w → Post N pre h0 w0 g0 Qx (.panic c) a w := by
      intro d v c a w hp
      cases hp.1
    cases hr : rdyGo done 0 (ops.toList.map (infOf cx ops)) with
    | nil =>
      rw [hr] at hk
      exact ⟨fun _ => ⟨rfl, fr, h, hk, st⟩, fun i hi => by have := (mem_rdy hdn (cx := cx)).2 hi; rw [hr] at this; cases this⟩
    | cons i0 r =>
      rw [hr] at hk
      simp only at hk
      have hsize : ∀ i ∈ Region.ready .any ops listed, i < ops.size := fun i hi => by
        obtain ⟨_, o, ho, _⟩ := mem_ready.1 hi
        exact (Array.getElem?_eq_some_iff.1 ho).1
      cases hf : (i0 :: r).find? (takeM (ops.toList.map (infOf cx ops)) done) with
      | some i =>
        rw [hf] at hk
        simp only at hk
        have hmem : i ∈ Region.ready .any ops listed := by
          have := List.mem_of_find?_eq_some hf
          rw [← hr] at this
          exact (mem_rdy hdn).1 this
        have hdn' := hdn.set (hsize i hmem)
        have htake := List.find?_some hf
        unfold takeM at htake
        unfold runI at hk
        rw [List.getElem?_map, Array.getElem?_toList] at htake
        cases ho : ops[i]? with
        | none => rw [ho] at hk; exact hk.elim
        | some o =>
          rw [ho] at hk htake
          simp only [Option.map_some] at hk htake
          rw [show (infOf cx ops o).cls = cls cx o from rfl] at htake
          have hfree : ∀ j oj, ops[j]? = some oj → j ≠ i → listed.getD j true = false → (∀ e ∈ oj.after, Region.binds .any e = true → e.on ≠ i) → o.apart ops oj = true := by
            intro j oj h1 h2 h3 h4
            cases hc : cls cx o <;> rw [hc] at htake <;> simp only at htake
            · exact (ok_free hdn htake j oj h1 h2 h3 h4).1
            · exact (ok_free hdn htake j oj h1 h2 h3 h4).1
            · cases htake
            · cases htake
          rcases opP_cases st hk with ⟨hw, hk⟩ | ⟨hw, hk⟩
          · -- it is not wanted
            have ih := wany_sound hty hgl hns fuel _ _ _ h _ w hdn' hk (st.skip o)
            exact wpAnyG_first (S := fun _ _ => True) (v := undef) ho (Region.noSelect_spec hns) (hQ _ _) (fun _ => trivial) fuel listed a w
              (fun j oj h1 h2 h3 h4 => ⟨hfree j oj h1 h2 h3 h4, fun _ _ _ _ _ => trivial⟩) hmem (.inr ⟨hw, rfl⟩) ih
          · obtain ⟨g, l, s, hfr, hN, hsig⟩ := st
            rcases aop_step hty (hgl.mono s.inv.le) s hfr hk with ⟨c, x, e1, e2⟩ | ⟨v, w', hrun, ⟨g', l', s', loc', h', hs1, hk', hs2, hle, hl, hsr⟩, hcl⟩
            · exfalso
              have : cls cx o = .wild := by simp [cls, e1, e2]
              rw [this] at htake; cases htake
            · have st' : St N pre h0 w0 g0 (fr.put o.dst s' loc') h' (a.put o.dst v) w' :=
                ⟨g', l', by rw [put_loc]; exact hs2, (hfr.mono hle hl).put o.dst hsr loc', by rw [put_len]; exact hN, by rw [put_loc]; exact hsig.trans hs1⟩
              have ih := wany_sound hty hgl hns fuel _ _ _ h' _ w' hdn' hk' st'
              unfold Cl at hcl
              cases hc : cls cx o <;> rw [hc] at htake hcl <;> simp only at htake hcl
              · -- it looks at nothing
                have hww : w' = w := by
                  have e := hcl w
                  rcases hrun with h1 | ⟨_, h1⟩
                  · rw [e] at h1; cases h1; rfl
                  · rw [e] at h1; cases h1
                subst hww
                exact wpAnyG_first (S := fun _ _ => True) (v := v) ho (Region.noSelect_spec hns) (hQ _ _) (fun _ => trivial) fuel listed a w'
                  (fun j oj h1 h2 h3 h4 => ⟨hfree j oj h1 h2 h3 h4, fun _ _ _ _ _ => trivial⟩) hmem (.inl ⟨hw, fun u _ => hcl u⟩) ih
              · -- it looks at memory
                obtain ⟨rfl, hcl⟩ := hcl
                exact wpAnyG_first (S := Sub) (v := v) ho (Region.noSelect_spec hns) (hQ _ _) Sub.refl fuel listed a w'
                  (fun j oj h1 h2 h3 h4 => ⟨hfree j oj h1 h2 h3 h4, fun w1 w2 hs u hu => (hs ((ok_free hdn htake j oj h1 h2 h3 h4).2 rfl)).trans hu⟩) hmem (.inl ⟨hw, hcl⟩) ih
              · cases htake
              · cases htake
      | none =>
        rw [hf] at hk
        simp only at hk
        refine ⟨fun h => (by have := (mem_rdy hdn (j := i0) (cx := cx)).1 (by rw [hr]; simp); rw [h] at this; cases this), fun i hi => ?_⟩
        have hdn' := hdn.set (hsize i hi)
        have hi' := (mem_rdy hdn (cx := cx)).2 hi
        rw [hr] at hi'
        have hk := allP_mem hk i hi'
        unfold runI at hk
        cases ho : ops[i]? with
        | none => rw [ho] at hk; exact hk.elim
        | some o =>
          rw [ho] at hk
          simp only at hk
          unfold wpOpG wpOp
          simp only [ho]
          rcases opP_cases st hk with ⟨hw, hk⟩ | ⟨hw, hk⟩
          · rw [if_neg (by simp [hw])]
            exact ⟨fun _ _ _ => .refl w, wany_sound hty hgl hns fuel _ _ _ h _ w hdn' hk (st.skip o)⟩
          · rw [if_pos hw]
            obtain ⟨g, l, s, hfr, hN, hsig⟩ := st
            left
            have nxt : ∀ v w', Done (fun s loc h' => wany cx (ACall cx.P cx.gl) ops (ops.toList.map (infOf cx ops)) Qx fuel (Nat.lor (Nat.pow 2 i) done) (fr.put o.dst s loc) h') h0 w0 g0 g l fr.loc v w' →
                wpAnyG cx cx.P ops (Post N pre h0 w0 g0 Qx) fuel (listed.setIfInBounds i true) (a.put o.dst v) w' := by
              rintro v w' ⟨g', l', s', loc', h', hs1, hk', hs2, hle, hl, hsr⟩
              exact wany_sound hty hgl hns fuel _ _ _ h' _ w' hdn' hk'
                ⟨g', l', by rw [put_loc]; exact hs2, (hfr.mono hle hl).put o.dst hsr loc', by rw [put_len]; exact hN, by rw [put_loc]; exact hsig.trans hs1⟩
            rcases aop_step hty (hgl.mono s.inv.le) s hfr hk with ⟨c, x, e1, e2⟩ | hs
            · refine op_call_fn (hgl.mono s.inv.le) s hfr e1 e2 hk fun v w' hd => ⟨fun o' h1 h2 => ?_, nxt v w' hd⟩
              cases h1
              exact absurd (by simp [cls, e1, e2]) h2
            · obtain ⟨v, w', hrun, hd, hcl⟩ := hs
              have hsub : ∀ o', some o = some o' → cls cx o' ≠ .wild → Sub w w' := by
                intro o' h1 h2
                cases h1
                unfold Cl at hcl
                cases hc : cls cx o <;> rw [hc] at hcl <;> simp only at hcl
                · have e := hcl w
                  rcases hrun with h1 | ⟨_, h1⟩
                  · rw [e] at h1; cases h1; exact .refl _
                  · rw [e] at h1; cases h1
                · rw [hcl.1]; exact .refl _
                · exact hcl
                · exact absurd hc h2
              unfold Oper.wp
              rcases hrun with h1 | ⟨rfl, h1⟩
              · rw [h1]; exact ⟨hsub, nxt _ _ hd⟩
              · rw [h1]; exact ⟨hsub, nxt _ _ hd⟩
end
end Go.AM

namespace Go.AM
open Go

section
variable {h0 h : H} {w0 w : World} {g0 g : Gh} {l : List Nat} {loc : List Box}

/-- Less is known of the boxes. -/
def BoxLe (b' b : Box) : Prop := b'.1 = b.1 ∧ b'.2.length = b.2.length ∧ ∀ (o : Nat) (c : AV), b'.2[o]? = some c → c = .junk ∨ b.2[o]? = some c

theorem BoxLe.vrs {b' b : Box} (h : BoxLe b' b) {vs : List Value} (hv : VRs g b.2 vs) : VRs g b'.2 vs := by
  refine VRs.of_get (by rw [h.2.1]; exact hv.length) fun i c v hc hv' => ?_
  rcases h.2.2 i c hc with rfl | h1
  · exact .junk v
  · obtain ⟨v2, h2, h3⟩ := hv.get h1
    rw [hv'] at h2; cases h2; exact h3

structure LocLe (loc' loc : List Box) : Prop where
  len : loc'.length = loc.length
  box : ∀ (i : Nat) (b' b : Box), loc'[i]? = some b' → loc[i]? = some b → BoxLe b' b

theorem SI.loosen (s : SI h0 w0 g0 g h l loc w) {loc' : List Box} (hl : LocLe loc' loc) : SI h0 w0 g0 g h l loc' w := by
  have hin : ∀ b ∈ l, ∃ (i : Nat) (x x' : Box), l[i]? = some b ∧ loc[i]? = some x ∧ loc'[i]? = some x' ∧ BoxLe x' x := by
    intro b hb
    obtain ⟨i, hi⟩ := List.mem_iff_getElem?.1 hb
    have h1 : i < loc.length := by rw [← s.len]; exact (List.getElem?_eq_some_iff.1 hi).1
    have h2 : i < loc'.length := by rw [hl.len]; exact h1
    exact ⟨i, loc[i], loc'[i], hi, List.getElem?_eq_getElem h1, List.getElem?_eq_getElem h2, hl.box i _ _ (List.getElem?_eq_getElem h2) (List.getElem?_eq_getElem h1)⟩
  refine ⟨⟨⟨s.inv.rel.im, s.inv.rel.lim, ?_, ?_⟩, s.inv.le, s.inv.size, s.inv.tape, s.inv.os, s.inv.output, ?_⟩, by rw [hl.len]; exact s.len, s.nd, s.fr⟩
  · intro b o hb
    by_cases hm : b ∈ l
    · obtain ⟨i, x, x', h1, h2, h3, h4⟩ := hin b hm
      rw [H.withL_mem l loc' s.nd h1 h3] at hb
      cases hb
      obtain ⟨⟨y, hy, hr⟩, h5, h6⟩ := s.inv.rel.mm b _ (H.withL_mem l loc s.nd h1 h2)
      refine ⟨⟨y, hy, ?_⟩, h5, by rw [H.withL_t] at h6 ⊢; exact h6⟩
      cases y <;> simp only [OR] at hr ⊢
      exact ⟨hr.1.trans h4.1.symm, h4.vrs hr.2.1, hr.2.2⟩
    · rw [H.withL_not l loc' hm] at hb
      have := s.inv.rel.mm b o (by rw [H.withL_not l loc hm]; exact hb)
      rw [H.withL_t] at this ⊢; exact this
  · intro b e hb
    rw [H.withL_t] at hb
    exact s.inv.rel.tt b e (by rw [H.withL_t]; exact hb)
  · intro b hb hm ht
    obtain ⟨k1, k2, k3, k4⟩ := s.inv.keep b hb hm ht
    have hn : b ∉ l := fun hx => by
      obtain ⟨i, x, x', h1, h2, _⟩ := hin b hx
      rw [H.withL_mem l loc s.nd h1 h2] at k2; cases k2
    exact ⟨k1, by rw [H.withL_not l loc' hn, ← H.withL_not l loc hn]; exact k2, by rw [H.withL_t] at k3 ⊢; exact k3, k4⟩

theorem SI.cut (s : SI h0 w0 g0 g h l loc w) (n : Nat) : SI h0 w0 g0 g h (l.take n) (loc.take n) w := by
  have hle : (h.withL (l.take n) (loc.take n)).le (h.withL l loc) := by
    rcases H.withL_take (h := h) l loc n s.nd with h1 | ⟨b, hb, h1⟩
    · exact h1
    · exact absurd (s.fr b hb).1 h1
  exact ⟨s.inv.weaken hle, by simp [s.len], s.nd.sublist (List.take_sublist _ _), fun b hb => s.fr b (List.mem_of_mem_take hb)⟩
end

/-- Less is known of the frame. -/
structure FrLe (f' f : Fr) : Prop where
  sl : f'.sl.length = f.sl.length
  slot : ∀ (i : Nat) (s : Slot), f'.sl[i]? = some s → s = .v .junk ∨ f.sl[i]? = some s
  loc : LocLe f'.loc f.loc

theorem FrLe.refl (f : Fr) : FrLe f f := ⟨rfl, fun _ _ h => .inr h, rfl, fun i b' b h1 h2 => by rw [h1] at h2; cases h2; exact ⟨rfl, rfl, fun _ _ h => .inr h⟩⟩

theorem blank_le {fr f : Fr} (hs : fr.sl.length = f.sl.length) (hl : fr.loc.length = f.loc.length) (hb : ∀ (i : Nat) (b b' : Box), fr.loc[i]? = some b → f.loc[i]? = some b' → b.1 = b'.1 ∧ b.2.length = b'.2.length) : FrLe fr.blank f where
  sl := by simp [Fr.blank, hs]
  slot := fun i s h => by
    simp only [Fr.blank, List.getElem?_map] at h
    cases hx : fr.sl[i]? <;> rw [hx] at h <;> simp at h
    exact .inl h.symm
  loc := ⟨by simp [Fr.blank, hl], fun i b' b h1 h2 => by
    simp only [Fr.blank, List.getElem?_map] at h1
    cases hx : fr.loc[i]? with
    | none => rw [hx] at h1; cases h1
    | some b0 =>
      rw [hx] at h1
      simp only [Option.map_some, Option.some.injEq] at h1
      subst h1
      obtain ⟨e1, e2⟩ := hb i b0 b hx h2
      refine ⟨e1, by simp [e2], fun o c hc => ?_⟩
      simp only [List.getElem?_map] at hc
      cases hy : b0.2[o]? <;> rw [hy] at hc <;> simp at hc
      exact .inl hc.symm⟩

theorem FrLe.setP {X f : Fr} (h : FrLe X f) (p : Pl) : FrLe (X.setP p (f.getP p)) f := by
  cases p with
  | sl t =>
    refine ⟨by simp [Fr.setP, h.sl], fun i s hs => ?_, h.loc⟩
    simp only [Fr.setP, List.getElem?_set] at hs
    by_cases e : t = i
    · subst e
      simp only [if_true] at hs
      split at hs
      · simp only [Option.some.injEq] at hs
        subst hs
        simp only [Fr.getP, List.getD_eq_getElem?_getD]
        cases hf : f.sl[t]? with
        | none => exact .inl rfl
        | some s => exact .inr rfl
      · cases hs
    · rw [if_neg e] at hs; exact h.slot i s hs
  | bx i o =>
    simp only [Fr.setP, Fr.getP]
    cases hX : X.loc[i]? with
    | none => cases hf : f.loc[i]? <;> exact h
    | some bX =>
      have hlt : i < f.loc.length := by rw [← h.loc.len]; exact (List.getElem?_eq_some_iff.1 hX).1
      have hf := List.getElem?_eq_getElem hlt
      generalize f.loc[i] = bf at hf
      rw [hf]
      simp only
      have hb := h.loc.box i _ _ hX hf
      refine ⟨h.sl, h.slot, by simp [h.loc.len], fun j b' b h1 h2 => ?_⟩
      simp only [List.getElem?_set] at h1
      by_cases e : i = j
      · subst e
        simp only [if_true] at h1
        split at h1
        · simp only [Option.some.injEq] at h1
          subst h1
          rw [hf] at h2
          cases h2
          refine ⟨hb.1, by simp [hb.2.1], fun k c hc => ?_⟩
          simp only [List.getElem?_set] at hc
          by_cases e : o = k
          · subst e
            simp only [if_true] at hc
            split at hc
            · simp only [Option.some.injEq] at hc
              subst hc
              rw [List.getD_eq_getElem?_getD]
              cases hk : bf.2[o]? with
              | none => exact .inl rfl
              | some c => exact .inr rfl
            · cases hc
          · rw [if_neg e] at hc; exact hb.2.2 k c hc
        · cases h1
      · rw [if_neg e] at h1; exact h.loc.box j b' b h1 h2

theorem FrLe.keep {fr0 X f : Fr} (h : FrLe X f) : ∀ (cs : List Pl), (∀ p ∈ cs, fr0.getP p = f.getP p) → FrLe (Fr.keep fr0 X cs) f
  | [], _ => h
  | p :: cs, hc => by
    simp only [Fr.keep]
    rw [hc p (by simp)]
    exact (FrLe.keep h cs fun q hq => hc q (by simp [hq])).setP p

theorem FrLe.setPs {X f : Fr} (h : FrLe X f) : ∀ (ps : List (Pl × Sh)) (vs : List AV), getPs f ps = vs.map .v → FrLe (X.setPs ps vs) f
  | [], _, _ => h
  | _ :: _, [], _ => h
  | p :: ps, v :: vs, hv => by
    simp only [getPs, List.map_cons, List.cons.injEq] at hv
    simp only [Fr.setPs]
    rw [← hv.1]
    exact (FrLe.setPs h ps vs hv.2).setP p.1

/-- What points at a box of the call's own. -/
def Slot.lpIn (s : Slot) (n : Nat) : Prop := match s with | .v _ => True | .lp i _ => i < n

theorem setP_lp {X : Fr} {n : Nat} (h : ∀ s ∈ X.sl, s.lpIn n) (p : Pl) {s : Slot} (hs : s.lpIn n) : ∀ s' ∈ (X.setP p s).sl, s'.lpIn n := by
  intro s' hm
  cases p with
  | sl t =>
    rcases List.mem_or_eq_of_mem_set hm with h1 | h1
    · exact h _ h1
    · rw [h1]; exact hs
  | bx i o =>
    unfold Fr.setP at hm
    cases s with
    | lp a b => exact h _ hm
    | v x =>
      simp only at hm
      cases hX : X.loc[i]? <;> rw [hX] at hm <;> exact h _ hm

theorem getP_lp {f : Fr} {n : Nat} (h : ∀ s ∈ f.sl, s.lpIn n) (p : Pl) : (f.getP p).lpIn n := by
  cases p with
  | sl t =>
    simp only [Fr.getP, List.getD_eq_getElem?_getD]
    cases hx : f.sl[t]? with
    | none => trivial
    | some s => exact h s (List.mem_of_getElem? hx)
  | bx i o =>
    simp only [Fr.getP]
    cases hx : f.loc[i]? <;> trivial

theorem head_lp {f : Fr} {n : Nat} (h : ∀ s ∈ f.sl, s.lpIn n) (cs : List Pl) (ps : List (Pl × Sh)) (vs : List AV) : ∀ s ∈ ((Fr.keep f f.blank cs).setPs ps vs).sl, s.lpIn n := by
  have hb : ∀ s ∈ f.blank.sl, s.lpIn n := by
    intro s hs
    simp only [Fr.blank, List.mem_map] at hs
    obtain ⟨_, _, rfl⟩ := hs
    trivial
  have hk : ∀ (cs : List Pl), ∀ s ∈ (Fr.keep f f.blank cs).sl, s.lpIn n := by
    intro cs
    induction cs with
    | nil => exact hb
    | cons p cs ih => exact setP_lp ih p (getP_lp h p)
  induction ps generalizing vs with
  | nil => exact hk cs
  | cons p ps ih =>
    cases vs with
    | nil => exact hk cs
    | cons v vs => exact setP_lp (ih vs) p.1 trivial

theorem Sig.len {a b : List Box} (h : Sig a b) : a.length ≤ b.length := by
  rcases Nat.lt_or_ge b.length a.length with hlt | hge
  · obtain ⟨b', h1, _⟩ := h b.length _ (List.getElem?_eq_getElem hlt)
    rw [List.getElem?_eq_none (Nat.le_refl _)] at h1; cases h1
  · exact hge

/-- The state at a loop's head. -/
theorem St.head {N : Nat} {pre : List Box} {h0 : H} {w0 : World} {g0 : Gh} {fr f X : Fr} {h : H} {a : Act} {w : World} (st : St N pre h0 w0 g0 f h a w) (hsig : Sig fr.loc f.loc)
    (hX : FrLe X (f.cut fr.loc.length)) (hlp : ∀ s ∈ X.sl, s.lpIn fr.loc.length) : St N fr.loc h0 w0 g0 X h a w := by
  obtain ⟨g, l, s, hf, hN, _⟩ := st
  refine ⟨g, l.take fr.loc.length, (s.cut fr.loc.length).loosen hX.loc, ⟨hf.defers, ?_, ?_⟩, ?_, ?_⟩
  · rw [hX.sl]; exact hf.size
  · intro i x v h1 h2
    rcases hX.slot i x h1 with rfl | h3
    · exact VR.junk v
    · have hsr := hf.slot i x v h3 h2
      cases x with
      | v y => exact hsr
      | lp j o =>
        obtain ⟨b, h4, h5⟩ := hsr
        have hj : j < fr.loc.length := hlp _ (List.mem_of_getElem? h1)
        exact ⟨b, by rw [List.getElem?_take_of_lt hj]; exact h4, h5⟩
  · rw [hX.sl]; exact hN
  · intro i b hb
    obtain ⟨b2, h1, h2, h3⟩ := hsig i b hb
    have hi := (List.getElem?_eq_some_iff.1 hb).1
    have h4 : (f.cut fr.loc.length).loc[i]? = some b2 := by
      simp only [Fr.cut]; rw [List.getElem?_take_of_lt hi]; exact h1
    have h5 : i < X.loc.length := by rw [hX.loc.len]; exact (List.getElem?_eq_some_iff.1 h4).1
    have h6 := hX.loc.box i _ _ (List.getElem?_eq_getElem h5) h4
    exact ⟨_, List.getElem?_eq_getElem h5, h6.1.trans h2, h6.2.1.trans h3⟩

/-! Where ways meet. -/
theorem ssSl_len : ∀ (l : List SS) (bs : List Slot) (xs : List AV), (ssSl l bs xs).length = l.length
  | [], _, _ => rfl
  | .junk :: l, bs, xs => by simp [ssSl, ssSl_len l]
  | .keep :: l, bs, xs => by simp [ssSl, ssSl_len l]
  | .lp i o :: l, bs, xs => by simp [ssSl, ssSl_len l]
  | .var s :: l, bs, xs => by simp [ssSl, ssSl_len l]
theorem ssCs_len : ∀ (l : List SS) (bs : List AV) (xs : List AV), (ssCs l bs xs).length = l.length
  | [], _, _ => rfl
  | .junk :: l, bs, xs => by simp [ssCs, ssCs_len l]
  | .keep :: l, bs, xs => by simp [ssCs, ssCs_len l]
  | .lp i o :: l, bs, xs => by simp [ssCs, ssCs_len l]
  | .var s :: l, bs, xs => by simp [ssCs, ssCs_len l]

theorem ifLt_elim {a b : Nat} {X : Prop} (h : ifLt a b X) : a < b ∧ X := by
  unfold ifLt at h
  cases e : Nat.blt a b <;> rw [e] at h
  · exact h.elim
  · exact ⟨Nat.le_of_ble_eq_true e, h⟩

theorem ssEnd_elim {n : Nat} : ∀ {l : List SS} {bs es : List Slot} {K : List AV → Prop}, ssEnd n l bs es K → ∃ vs, K vs ∧ l.length = es.length ∧ (∀ ws, ssDrop l (vs ++ ws) = ws) ∧
    ∀ ws (i : Nat) (s : Slot), (ssSl l bs (vs ++ ws))[i]? = some s → (s = .v .junk ∨ es[i]? = some s) ∧ s.lpIn n
  | [], bs, [], K, h => ⟨[], h, rfl, fun _ => rfl, fun ws i s h => by simp [ssSl] at h⟩
  | [], _, _ :: _, _, h => h.elim
  | .junk :: l, bs, e :: es, K, h => by
    obtain ⟨vs, h1, h2, h3, h4⟩ := ssEnd_elim (l := l) h
    refine ⟨vs, h1, by simp [h2], h3, fun ws i s hs => ?_⟩
    cases i with
    | zero => simp [ssSl] at hs; subst hs; exact ⟨.inl rfl, trivial⟩
    | succ i => simpa using h4 ws i s (by simpa [ssSl] using hs)
  | .keep :: l, b :: bs, e :: es, K, h => by
    have fin : b = e → e.lpIn n → ssEnd n l bs es K → ∃ vs, K vs ∧ (SS.keep :: l).length = (e :: es).length ∧ (∀ ws, ssDrop (SS.keep :: l) (vs ++ ws) = ws) ∧
        ∀ ws (i : Nat) (s : Slot), (ssSl (SS.keep :: l) (b :: bs) (vs ++ ws))[i]? = some s → (s = .v .junk ∨ (e :: es)[i]? = some s) ∧ s.lpIn n := by
      intro hbe hlp h
      obtain ⟨vs, h1, h2, h3, h4⟩ := ssEnd_elim (l := l) h
      refine ⟨vs, h1, by simp [h2], h3, fun ws i s hs => ?_⟩
      cases i with
      | zero => simp [ssSl] at hs; subst hs; subst hbe; exact ⟨.inr rfl, hlp⟩
      | succ i => simpa using h4 ws i s (by simpa [ssSl] using hs)
    unfold ssEnd at h
    split at h
    · obtain ⟨rfl, h⟩ := h
      exact fin rfl trivial h
    · obtain ⟨h0, h⟩ := ifLt_elim h
      obtain ⟨e1, h⟩ := ifN_elim h
      obtain ⟨e2, h⟩ := ifN_elim h
      exact fin (by rw [e1, e2]) h0 h
    · exact h.elim
  | .lp i0 o0 :: l, bs, e :: es, K, h => by
    unfold ssEnd at h
    split at h
    · rename_i i' o'
      obtain ⟨h0, h⟩ := ifLt_elim h
      obtain ⟨e1, h⟩ := ifN_elim h
      obtain ⟨e2, h⟩ := ifN_elim h
      obtain ⟨vs, h1, h2, h3, h4⟩ := ssEnd_elim (l := l) h
      refine ⟨vs, h1, by simp [h2], h3, fun ws i s hs => ?_⟩
      cases i with
      | zero => simp [ssSl] at hs; subst hs; exact ⟨.inr (by simp [e1, e2]), h0⟩
      | succ i => simpa using h4 ws i s (by simpa [ssSl] using hs)
    · exact h.elim
  | .var sh :: l, bs, e :: es, K, h => by
    unfold ssEnd at h
    split at h
    · rename_i x
      obtain ⟨vs, h1, h2, h3, h4⟩ := ssEnd_elim (l := l) h
      refine ⟨x :: vs, h1, by simp [h2], fun ws => by simpa [ssDrop] using h3 ws, fun ws i s hs => ?_⟩
      cases i with
      | zero => simp [ssSl] at hs; subst hs; exact ⟨.inr (by simp), trivial⟩
      | succ i => simpa using h4 ws i s (by simpa [ssSl] using hs)
    · exact h.elim
  | .junk :: _, _, [], _, h => h.elim
  | .keep :: _, [], [], _, h => h.elim
  | .keep :: _, _ :: _, [], _, h => h.elim
  | .keep :: _, [], _ :: _, _, h => h.elim
  | .lp _ _ :: _, _, [], _, h => h.elim
  | .var _ :: _, _, [], _, h => h.elim

theorem csEnd_elim : ∀ {l : List SS} {bs es : List AV} {K : List AV → Prop}, csEnd l bs es K → ∃ vs, K vs ∧ l.length = es.length ∧ (∀ ws, ssDrop l (vs ++ ws) = ws) ∧
    ∀ ws (i : Nat) (c : AV), (ssCs l bs (vs ++ ws))[i]? = some c → c = .junk ∨ es[i]? = some c
  | [], bs, [], K, h => ⟨[], h, rfl, fun _ => rfl, fun ws i s h => by simp [ssCs] at h⟩
  | [], _, _ :: _, _, h => h.elim
  | .junk :: l, bs, e :: es, K, h => by
    obtain ⟨vs, h1, h2, h3, h4⟩ := csEnd_elim (l := l) h
    refine ⟨vs, h1, by simp [h2], h3, fun ws i s hs => ?_⟩
    cases i with
    | zero => simp [ssCs] at hs; subst hs; exact .inl rfl
    | succ i => simpa using h4 ws i s (by simpa [ssCs] using hs)
  | .keep :: l, b :: bs, e :: es, K, h => by
    obtain ⟨rfl, h⟩ := h
    obtain ⟨vs, h1, h2, h3, h4⟩ := csEnd_elim (l := l) h
    refine ⟨vs, h1, by simp [h2], h3, fun ws i s hs => ?_⟩
    cases i with
    | zero => simp [ssCs] at hs; subst hs; exact .inr rfl
    | succ i => simpa using h4 ws i s (by simpa [ssCs] using hs)
  | .var sh :: l, bs, e :: es, K, h => by
    obtain ⟨vs, h1, h2, h3, h4⟩ := csEnd_elim (l := l) h
    refine ⟨e :: vs, h1, by simp [h2], fun ws => by simpa [ssDrop] using h3 ws, fun ws i s hs => ?_⟩
    cases i with
    | zero => simp [ssCs] at hs; subst hs; exact .inr (by simp)
    | succ i => simpa using h4 ws i s (by simpa [ssCs] using hs)
  | .junk :: _, _, [], _, h => h.elim
  | .keep :: _, [], [], _, h => h.elim
  | .keep :: _, _ :: _, [], _, h => h.elim
  | .keep :: _, [], _ :: _, _, h => h.elim
  | .lp _ _ :: _, _, [], _, h => h.elim
  | .lp _ _ :: _, _, _ :: _, _, h => h.elim
  | .var _ :: _, _, [], _, h => h.elim

theorem locEnd_elim : ∀ {l : List (TypeId × List SS)} {bs es : List Box} {K : List AV → Prop}, locEnd l bs es K → ∃ vs, K vs ∧ l.length ≤ es.length ∧ LocLe (locFr l bs vs) (es.take l.length)
  | [], bs, es, K, h => ⟨[], h, Nat.zero_le _, by simp [locFr], fun i b' b h1 => by simp [locFr] at h1⟩
  | _ :: _, _, [], _, h => h.elim
  | (t, l) :: r, bs, (t', cs) :: es, K, h => by
    unfold locEnd at h
    obtain ⟨ht, k1⟩ := ifN_elim h
    clear h
    subst ht
    obtain ⟨vs, k2, h2, h3, h4⟩ := csEnd_elim k1
    obtain ⟨ws, h5, h6, h7⟩ := locEnd_elim (l := r) k2
    refine ⟨vs ++ ws, h5, by simpa using h6, ?_, ?_⟩
    · have := h7.len
      simp only [locFr, List.length_cons, List.take_succ_cons, h3, this]
    · intro i b' b hb' hb
      cases i with
      | zero =>
        simp only [locFr, List.length_cons, List.take_succ_cons, List.getElem?_cons_zero, Option.some.injEq] at hb' hb
        subst hb' hb
        exact ⟨rfl, by rw [ssCs_len]; exact h2, fun o c hc => h4 ws o c hc⟩
      | succ i =>
        simp only [locFr, List.length_cons, List.take_succ_cons, List.getElem?_cons_succ, h3] at hb' hb
        exact h7.box i b' b hb' hb

theorem ends_elim {j : JS} {fr f : Fr} {K : List AV → Prop} (h : j.ends fr f K) : ∃ vs, K vs ∧ fr.loc.length ≤ j.loc.length ∧ FrLe (j.frame fr vs) (f.cut j.loc.length) ∧
    ∀ s ∈ (j.frame fr vs).sl, s.lpIn j.loc.length := by
  obtain ⟨h0, h⟩ := ifLe_elim h
  obtain ⟨vs, h, h2, h3, h4⟩ := ssEnd_elim h
  obtain ⟨ws, h, h5, h6⟩ := locEnd_elim h
  refine ⟨vs ++ ws, h, h0, ⟨?_, fun i s hs => (h4 ws i s hs).1, ?_⟩, fun s hs => ?_⟩
  · simp only [JS.frame, Fr.cut, ssSl_len]; exact h2
  · simp only [JS.frame, Fr.cut, h3]; exact h6
  · obtain ⟨i, hi⟩ := List.mem_iff_getElem?.1 hs
    exact (h4 ws i s hi).2

/-- The state where ways meet. -/
theorem St.meet {N : Nat} {pre : List Box} {h0 : H} {w0 : World} {g0 : Gh} {f X : Fr} {n : Nat} {h : H} {a : Act} {w : World} (st : St N pre h0 w0 g0 f h a w)
    (hX : FrLe X (f.cut n)) (hlp : ∀ s ∈ X.sl, s.lpIn n) (hn : pre.length ≤ n) : St N pre h0 w0 g0 X h a w := by
  obtain ⟨g, l, s, hf, hN, hsig⟩ := st
  refine ⟨g, l.take n, (s.cut n).loosen hX.loc, ⟨hf.defers, ?_, ?_⟩, ?_, ?_⟩
  · rw [hX.sl]; exact hf.size
  · intro i x v h1 h2
    rcases hX.slot i x h1 with rfl | h3
    · exact VR.junk v
    · have hsr := hf.slot i x v h3 h2
      cases x with
      | v y => exact hsr
      | lp j o =>
        obtain ⟨b, h4, h5⟩ := hsr
        have hj : j < n := hlp _ (List.mem_of_getElem? h1)
        exact ⟨b, by rw [List.getElem?_take_of_lt hj]; exact h4, h5⟩
  · rw [hX.sl]; exact hN
  · intro i b hb
    obtain ⟨b2, h1, h2, h3⟩ := hsig i b hb
    have hi : i < n := Nat.lt_of_lt_of_le (List.getElem?_eq_some_iff.1 hb).1 hn
    have h4 : (f.cut n).loc[i]? = some b2 := by
      simp only [Fr.cut]; rw [List.getElem?_take_of_lt hi]; exact h1
    have h5 : i < X.loc.length := by rw [hX.loc.len]; exact (List.getElem?_eq_some_iff.1 h4).1
    have h6 := hX.loc.box i _ _ (List.getElem?_eq_getElem h5) h4
    exact ⟨_, List.getElem?_eq_getElem h5, h6.1.trans h2, h6.2.1.trans h3⟩

/-! Loops. -/
def LoopWp (P : Program) (c : Code) (Q : Exit → Act → World → Prop) (a : Act) (w : World) : Prop :=
  ∀ (b : Frame) (k : List Item) (cs : List Frame), ∃ e a' w', Q e a' w' ∧ Arrives P (lone (b.at a (.code c :: .inLoop c :: k)) cs w) b k cs e a' w'

theorem loopWp_step {P : Program} {c : Code} {Q : Exit → Act → World → Prop} {a : Act} {w : World} (h : c.wp P (Exit.then (LoopWp P c Q) Q) a w) : LoopWp P c Q a w := by
  intro b k cs
  obtain ⟨e, a₁, w₁, hq, harr⟩ := h b (.inLoop c :: k) cs
  cases e with
  | normal =>
    obtain ⟨e₂, a₂, w₂, hq₂, harr₂⟩ := hq b k cs
    exact ⟨e₂, a₂, w₂, hq₂, .of_steps (Steps.trans harr (.one step_inLoop)) harr₂⟩
  | exit id => exact ⟨_, a₁, w₁, hq, .pass (x := .inLoop c) rfl (fun _ _ => .inl (by simp)) harr⟩
  | goto l => exact ⟨_, a₁, w₁, hq, .pass (x := .inLoop c) rfl (fun _ _ => .inl (by simp)) harr⟩
  | ret => exact ⟨_, a₁, w₁, hq, .pass (x := .inLoop c) rfl (fun _ _ => .inl (by simp)) harr⟩
  | panic ch => exact ⟨_, a₁, w₁, hq, .pass (x := .inLoop c) rfl (fun _ _ => .inl (by simp)) harr⟩
  | outgrown => exact ⟨_, a₁, w₁, hq, .pass (x := .inLoop c) rfl (fun _ _ => .inl (by simp)) harr⟩

theorem wp_loopWp {P : Program} {c : Code} {Q : Exit → Act → World → Prop} {a : Act} {w : World} (h : LoopWp P c Q a w) : (Code.loop c).wp P Q a w := by
  intro b k cs
  obtain ⟨e, a', w', hq, harr⟩ := h b k cs
  exact ⟨e, a', w', hq, .of_steps (.one step_loop) harr⟩

theorem appS_curry {F : List AV → H → Prop} : ∀ {ss : List Sh} {vs : List AV} {h : H} {G : List AV → List AV}, appS ss (curryTo ss fun xs => F (G xs)) vs h → F (G vs) h
  | [], [], _, _, h => h
  | [], _ :: _, _, _, h => h.elim
  | _ :: _, [], _, _, h => h.elim
  | s :: ss, v :: vs, h, G, hk => by
    obtain ⟨x, hx, k2⟩ := onC_elim (s := s) hk
    subst hx
    exact appS_curry (ss := ss) (G := fun xs => G (s.inj x :: xs)) k2

theorem onC_inj {s : Sh} {x : s.Ty} {K : s.Ty → Prop} : onC s (s.inj x) K = K x := by
  cases s with
  | I k => cases k <;> rfl
  | F k => cases k <;> rfl
  | _ => rfl

theorem allS_app {B F : List AV → H → Prop} : ∀ {ss : List Sh} {G : List AV → List AV}, (∀ vs h1, B (G vs) h1 → F (G vs) h1) →
    allS ss fun xs => ∀ h1, B (G xs) h1 → appS ss (curryTo ss fun xs => F (G xs)) xs h1
  | [], _, h => fun h1 hb => h [] h1 hb
  | s :: ss, G, h => fun x => by
    have ih := allS_app (B := B) (F := F) (ss := ss) (G := fun xs => G (s.inj x :: xs)) fun vs h1 hb => h _ h1 hb
    have e : (fun xs => ∀ h1, B (G (s.inj x :: xs)) h1 → appS (s :: ss) (curryTo (s :: ss) fun xs => F (G xs)) (s.inj x :: xs) h1) =
        fun xs => ∀ h1, B (G (s.inj x :: xs)) h1 → appS ss (curryTo ss fun xs => F (G (s.inj x :: xs))) xs h1 := by
      funext xs
      apply forall_congr
      intro h1
      have e2 : appS (s :: ss) (curryTo (s :: ss) fun xs => F (G xs)) (s.inj x :: xs) h1 = appS ss (curryTo ss fun xs => F (G (s.inj x :: xs))) xs h1 := by
        show onC s (s.inj x) (fun y => appS ss (curryTo ss fun xs => F (G (s.inj y :: xs))) xs h1) = _
        rw [onC_inj]
      rw [e2]
    rw [e]; exact ih

theorem sameP_elim {fr0 f : Fr} : ∀ {cs : List Pl} {X : Prop}, sameP fr0 f cs X → (∀ p ∈ cs, fr0.getP p = f.getP p) ∧ X
  | [], X, h => ⟨fun p hp => by simp at hp, h⟩
  | p :: cs, X, h => by
    simp only [sameP] at h
    split at h
    · rename_i a b h1 h2
      obtain ⟨rfl, h⟩ := h
      obtain ⟨h3, h4⟩ := sameP_elim h
      refine ⟨fun q hq => ?_, h4⟩
      rcases List.mem_cons.1 hq with rfl | hq
      · rw [h1, h2]
      · exact h3 q hq
    · rename_i i o j q h1 h2
      obtain ⟨e1, k1⟩ := ifN_elim h
      obtain ⟨e2, k2⟩ := ifN_elim k1
      obtain ⟨h3, h4⟩ := sameP_elim k2
      subst e1 e2
      refine ⟨fun q hq => ?_, h4⟩
      rcases List.mem_cons.1 hq with rfl | hq
      · rw [h1, h2]
      · exact h3 q hq
    · exact h.elim

section
variable {cx : Cx} {h0 : H} {w0 : World} {g0 : Gh}

theorem wpx_sound (hty : TyOK cx) (hmix : cx.P.follows .mixedOrders = true) (hgl : GlOK cx.gl g0) (N : Nat) : ∀ (c : Code) (pre : List Box) (Qx : Exit → Fr → H → Prop) (fr : Fr) (h : H) (a : Act) (w : World),
    wpx cx (ACall cx.P cx.gl) c Qx fr h → St N pre h0 w0 g0 fr h a w → c.wp cx.P (Post N pre h0 w0 g0 Qx) a w
  | .skip, pre, Qx, fr, h, a, w, hk, st => wp_skip ⟨rfl, fr, h, hk, st⟩
  | .ret, pre, Qx, fr, h, a, w, hk, st => wp_ret ⟨rfl, fr, h, hk, st⟩
  | .exit id, pre, Qx, fr, h, a, w, hk, st => wp_exit ⟨rfl, fr, h, hk, st⟩
  | .seq x y, pre, Qx, fr, h, a, w, hk, st => by
    unfold wpx at hk
    cases hj : (cx.joins.find? fun l => Nat.beq l.1 (firstReg y)) with
    | none =>
      rw [hj] at hk
      refine wp_seq (wp_mono (wpx_sound hty hmix hgl N x pre _ fr h a w hk st) ?_)
      rintro e a' w' ⟨htame, fr', h', hq, st'⟩
      cases e with
      | normal => exact wpx_sound hty hmix hgl N y pre Qx fr' h' a' w' hq st'
      | _ => exact ⟨htame, fr', h', hq, st'⟩
    | some t =>
      obtain ⟨id, js⟩ := t
      rw [hj] at hk
      simp only at hk
      have hpre : pre.length ≤ fr.loc.length := by obtain ⟨_, _, _, _, _, hsig⟩ := st; exact hsig.len
      let F : List AV → H → Prop := fun xs h1 => ∀ a w, St N pre h0 w0 g0 (js.frame fr xs) h1 a w → y.wp cx.P (Post N pre h0 w0 g0 Qx) a w
      have main := hk (curryTo js.shs fun xs => F xs) ?_
      · refine wp_seq (wp_mono (wpx_sound hty hmix hgl N x pre _ fr h a w main st) ?_)
        rintro e a' w' ⟨htame, fr', h', hq, st'⟩
        cases e with
        | normal =>
          obtain ⟨vs, hI, hn, hX, hlp⟩ := ends_elim hq
          have hI := appS_curry (F := F) (G := fun xs => xs) hI
          exact hI a' w' (st'.meet hX hlp (Nat.le_trans hpre hn))
        | _ => exact ⟨htame, fr', h', hq, st'⟩
      · exact allS_app (F := F) (G := fun xs => xs) (B := fun xs h1 => wpx cx (ACall cx.P cx.gl) y Qx (js.frame fr xs) h1) fun xs h1 hb a1 w1 st1 => wpx_sound hty hmix hgl N y pre Qx _ h1 a1 w1 hb st1
  | .cond c x y, pre, Qx, fr, h, a, w, hk, st => by
    obtain ⟨b, hb, hk⟩ := boolP_elim hk
    have st' := st
    obtain ⟨g, l, s, hf, _⟩ := st'
    have hc := hf.evV cx (hgl.mono s.inv.le) _ _ hb
    generalize hcv : a.eval c = cv at hc
    cases hc
    rcases ifB_elim hk with ⟨rfl, hk⟩ | ⟨rfl, hk⟩
    · exact wp_cond_true hcv (wpx_sound hty hmix hgl N x pre Qx fr h a w hk st)
    · exact wp_cond_false hcv (wpx_sound hty hmix hgl N y pre Qx fr h a w hk st)
  | .block id x, pre, Qx, fr, h, a, w, hk, st => by
    refine wp_block (wp_mono (wpx_sound hty hmix hgl N x pre _ fr h a w hk st) ?_)
    rintro e a' w' ⟨htame, fr', h', hq, st'⟩
    cases e with
    | exit id' =>
      simp only at hq
      cases hb : Nat.beq id' id with
      | true =>
        rw [hb] at hq
        have := Nat.eq_of_beq_eq_true hb
        simp only [Exit.inBlock, if_pos this]
        exact ⟨by first | rfl | exact htame, fr', h', hq, st'⟩
      | false =>
        rw [hb] at hq
        have : id' ≠ id := Nat.ne_of_beq_eq_false hb
        simp only [Exit.inBlock, if_neg this]
        exact ⟨by first | rfl | exact htame, fr', h', hq, st'⟩
    | _ => exact ⟨by first | rfl | exact htame, fr', h', hq, st'⟩
  | .region _ ops false, pre, Qx, fr, h, a, w, hk, st => by
    refine wp_region ?_
    have := wops_sound hty hgl ops.toList 0 fr h a w rfl hk st
    rw [List.range_eq_range']
    simpa using this
  | .region _ ops true, pre, Qx, fr, h, a, w, hk, st => by
    refine wp_region_any hmix ?_
    unfold wpx at hk
    cases hns : Region.noSelect ops with
    | false => rw [hns] at hk; exact hk.elim
    | true =>
      rw [hns] at hk
      obtain ⟨g, l, s, hf, hN, hsig⟩ := st
      exact wpAnyG_any _ _ _ _ (wany_sound hty hgl hns _ 0 _ fr h a w.drew ⟨by simp, fun i => by simp only [Nat.zero_testBit, Array.getD_eq_getD_getElem?, Array.getElem?_replicate]; split <;> rfl⟩ hk ⟨g, l, s.drew, hf, hN, hsig⟩)
  | .loop x, pre, Qx, fr, h, a, w, hk, st => by
    unfold wpx at hk
    cases hfind : (cx.loops.find? fun l => Nat.beq l.1 (firstReg x)) with
    | none => rw [hfind] at hk; exact hk.elim
    | some t =>
      obtain ⟨id, ps, cs⟩ := t
      rw [hfind] at hk
      simp only at hk
      obtain ⟨g, l, s, hf, hN, hsig⟩ := st
      -- what points at boxes
      have hlp : ∀ sl ∈ fr.sl, sl.lpIn fr.loc.length := by
        intro sl hm
        cases sl with
        | v y => trivial
        | lp i o =>
          obtain ⟨j, hj⟩ := List.mem_iff_getElem?.1 hm
          have hlt : j < a.tmps.size := by rw [← hf.size]; exact (List.getElem?_eq_some_iff.1 hj).1
          obtain ⟨b, hb, _⟩ := hf.slot j _ _ hj (Array.getElem?_eq_getElem hlt)
          have := (List.getElem?_eq_some_iff.1 hb).1
          show i < fr.loc.length
          rw [← s.len]; exact this
      let F : List AV → H → Prop := fun xs h1 => ∀ a w, St N fr.loc h0 w0 g0 ((Fr.keep fr fr.blank cs).setPs ps xs) h1 a w → LoopWp cx.P x (Post N pre h0 w0 g0 Qx) a w
      have main := hk (curryTo (shs ps) fun xs => F xs) ?_
      · obtain ⟨vs, hvs, hI⟩ := slots_elim main
        have hI := appS_curry (F := F) (G := fun xs => xs) hI
        refine wp_loopWp (hI a w ?_)
        have hb : FrLe fr.blank (fr.cut fr.loc.length) := by
          refine blank_le rfl (by simp [Fr.cut]) fun i b b' h1 h2 => ?_
          simp only [Fr.cut, List.take_length] at h2
          rw [h1] at h2; cases h2; exact ⟨rfl, rfl⟩
        have hcut : fr.cut fr.loc.length = fr := by simp [Fr.cut]
        refine St.head ⟨g, l, s, hf, hN, hsig⟩ (.refl _) ?_ (head_lp hlp cs ps vs)
        rw [hcut] at hb ⊢
        exact (hb.keep cs fun _ _ => rfl).setPs ps vs hvs
      · refine allS_app (F := F) (G := fun xs => xs) (B := fun xs h1 => wpx cx (ACall cx.P cx.gl) x _ ((Fr.keep fr fr.blank cs).setPs ps xs) h1) fun xs h1 hb a1 w1 st1 => loopWp_step ?_
        refine wp_mono (wpx_sound hty hmix hgl N x fr.loc _ _ h1 a1 w1 hb st1) ?_
        rintro e a' w' ⟨htame, fr', h', hq, st'⟩
        cases e with
        | normal =>
          obtain ⟨hsame, hq⟩ := sameP_elim hq
          obtain ⟨vs, hvs, hI⟩ := slots_elim hq
          have hI := appS_curry (F := F) (G := fun xs => xs) hI
          refine hI a' w' ?_
          have st2 := st'
          obtain ⟨g', l', s', hf', hN', hsig'⟩ := st2
          have hb : FrLe fr.blank (fr'.cut fr.loc.length) := by
            refine blank_le (by rw [hN]; exact hN'.symm) (by have := hsig'.len; simp [Fr.cut]; omega) fun i b b' h1 h2 => ?_
            obtain ⟨b2, h3, h4, h5⟩ := hsig' i b h1
            have hi := (List.getElem?_eq_some_iff.1 h1).1
            simp only [Fr.cut] at h2
            rw [List.getElem?_take_of_lt hi, h3] at h2
            cases h2
            exact ⟨h4.symm, h5.symm⟩
          exact St.head st' hsig' ((hb.keep cs hsame).setPs ps vs hvs) (head_lp hlp cs ps vs)
        | exit id => obtain ⟨g', l', s', hf', hN', hsig'⟩ := st'; exact ⟨htame, fr', h', hq, g', l', s', hf', hN', hsig.trans hsig'⟩
        | goto id => obtain ⟨g', l', s', hf', hN', hsig'⟩ := st'; exact ⟨htame, fr', h', hq, g', l', s', hf', hN', hsig.trans hsig'⟩
        | ret => obtain ⟨g', l', s', hf', hN', hsig'⟩ := st'; exact ⟨htame, fr', h', hq, g', l', s', hf', hN', hsig.trans hsig'⟩
        | panic id => obtain ⟨g', l', s', hf', hN', hsig'⟩ := st'; exact ⟨htame, fr', h', hq, g', l', s', hf', hN', hsig.trans hsig'⟩
        | outgrown => obtain ⟨g', l', s', hf', hN', hsig'⟩ := st'; exact ⟨htame, fr', h', hq, g', l', s', hf', hN', hsig.trans hsig'⟩
  | .rangeFunc _ _ _ _, _, _, _, _, _, _, hk, _ => hk.elim
  | .scope _, _, _, _, _, _, _, hk, _ => hk.elim
  | .label _, _, _, _, _, _, _, hk, _ => hk.elim
  | .goto _, _, _, _, _, _, _, hk, _ => hk.elim
end
end Go.AM

namespace Go.AM
open Go

section
variable {cx : Cx} {h0 h : H} {w0 w : World} {g0 g : Gh} {l : List Nat} {fr : Fr} {a : Act}

/-- What a result's variable gives. -/
def resRun (tmps : Array Value) : ResultVar → Sem Value
  | .tmp t => pure (tmps.getD t undef)
  | .cell x t => do loadVar t (← asAddr (tmps.getD x undef))

theorem resP_sound (hty : TyOK cx) (hgl : GlOK cx.gl g) (s : SI h0 w0 g0 g h l fr.loc w) (hf : FRel g l fr a) : ∀ {rs : List ResultVar} {K : List AV → Prop}, resP cx fr h rs K →
    ∃ avs vs, K avs ∧ VRs g avs vs ∧ (rs.mapM (resRun a.tmps)).run cx.P w = .ok vs w
  | [], K, hk => ⟨[], [], hk, .nil, rfl⟩
  | .tmp t :: r, K, hk => by
    obtain ⟨v, hv, hk⟩ := slotV_elim hk
    obtain ⟨avs, vs, h1, h2, h3⟩ := resP_sound hty hgl s hf hk
    have hx : VR g v (a.tmps.getD t undef) := hf.evV cx hgl 0 (.tmp t) hv
    refine ⟨v :: avs, a.tmps.getD t undef :: vs, h1, .cons hx h2, ?_⟩
    simp only [List.mapM_cons, Sem.run_bind, resRun, Sem.run_pure, Result.andThen_ok, h3]
  | .cell x T :: r, K, hk => by
    have hx := hf.ev cx hgl 0 (.tmp x)
    have hev : a.eval (.tmp x) = a.tmps.getD x undef := rfl
    have hfe : fr.ev cx 0 (.tmp x) = fr.sl.getD x undefS := rfl
    rw [hev, hfe] at hx
    simp only [resP] at hk
    have fin : ∀ (b off : Nat) (c : AV) (v : Value), a.tmps.getD x undef = .pointer (some ⟨b, off, none⟩) → (loadVar T ⟨b, off, none⟩).run cx.P w = .ok v w → VR g c v → resP cx fr h r (fun vs => K (c :: vs)) →
        ∃ avs vs, K avs ∧ VRs g avs vs ∧ ((ResultVar.cell x T :: r).mapM (resRun a.tmps)).run cx.P w = .ok vs w := by
      intro b off c v h1 h2 h3 hk
      obtain ⟨avs, vs, h4, h5, h6⟩ := resP_sound hty hgl s hf hk
      refine ⟨c :: avs, v :: vs, h4, .cons h3 h5, ?_⟩
      simp only [List.mapM_cons, Sem.run_bind, resRun, h1, asAddr, Sem.run_pure, Result.andThen_ok, h2, h6]
    cases hs : fr.sl.getD x undefS with
    | lp i off =>
      rw [hs] at hk hx
      simp only at hk
      obtain ⟨b, hi, hv⟩ := hx
      cases hl : fr.loc[i]? with
      | none => rw [hl] at hk; exact hk.elim
      | some bx =>
        obtain ⟨e, cs⟩ := bx
        rw [hl] at hk
        obtain ⟨hd, hk⟩ := knownP_elim hk
        obtain ⟨vs, h1, h2⟩ := H.lp_cells s hi hl
        cases ha : (cx.ti T).agg with
        | true =>
          simp only [ha] at hk
          obtain ⟨hlen, hk⟩ := takeP_elim hk
          have hvl : (vs.toList.drop off |>.take (cx.ti T).size).length = (cx.ti T).size := by
            have := h2.length; simp at this; simp; omega
          have hrun := (run_loadVar_of (P := cx.P) (w := w) (hty T) hd (b := b) (o := off) (vs := (vs.toList.drop off).take (cx.ti T).size) (fun j v hj => by
            obtain ⟨_, h6⟩ := getElem?_take_drop hj
            rw [Addr.add_lit, cell_of h1]; simpa using h6) hvl).1 ha
          exact fin b off _ _ hv hrun (VR.agg _ _ ((h2.drop off).take _)) hk
        | false =>
          simp only [ha] at hk
          cases hc : cs[off]? with
          | none => rw [hc] at hk; exact hk.elim
          | some c =>
            rw [hc] at hk
            obtain ⟨v, hv1, hv2⟩ := h2.get hc
            have hrun := (run_loadVar_of (P := cx.P) (w := w) (hty T) hd (b := b) (o := off) (vs := [v]) (fun j u hj => by
              cases j with
              | zero => simp at hj; subst hj; rw [Addr.add_lit, cell_of h1]; simpa using hv1
              | succ j => simp at hj) (by rw [(hty T).one ha hd]; rfl)).2 ha v rfl
            exact fin b off c v hv hrun hv2 hk
    | v p =>
      rw [hs] at hk hx
      simp only at hk
      obtain ⟨cs, b, off, hv, hlen, hk, hcells⟩ := ldM_elim s.rel hx hk
      obtain ⟨hr, hd⟩ := readP_elim hk
      obtain ⟨vs, h1, h2⟩ := cells_list hcells
      have hl : vs.length = (cx.ti T).size := by rw [← h1.length, hlen]
      obtain ⟨r1, r2⟩ := run_loadVar_of (P := cx.P) (w := w) (hty T) hd h2 hl
      rcases hr with ⟨ha, hk'⟩ | ⟨ha, c, hcs, hk'⟩
      · exact fin b off _ _ hv (r1 ha) (VR.agg _ _ h1) hk'
      · rw [hcs] at h1
        cases h1 with
        | @cons _ v _ _ hc hn =>
          cases hn
          exact fin b off c v hv (r2 ha _ rfl) hc hk'

theorem retP_sound (hty : TyOK cx) (hgl : GlOK cx.gl g) (s : SI h0 w0 g0 g h l fr.loc w) (hf : FRel g l fr a) {fn : Func} {Q : AV → H → Prop} (hk : retP cx fr h fn.results.toList Q) :
    ∃ av v, Q av h ∧ VR g av v ∧ (results fn a.tmps).run cx.P w = .ok v w := by
  obtain ⟨avs, vs, h1, h2, h3⟩ := resP_sound hty hgl s hf hk
  have hm : (fn.results.mapM (resRun a.tmps)).run cx.P w = .ok vs.toArray w := by
    rw [Array.mapM_eq_mapM_toList, map_eq_pure_bind]
    simp only [Sem.run_bind, h3, Result.andThen_ok, Sem.run_pure]
  have hres : results fn a.tmps = (fn.results.mapM (resRun a.tmps)) >>= fun vs => pure (if h : vs.size = 1 then vs[0] else .tuple vs) := by
    unfold results
    congr 1
  have hrun : ∀ v, (if h : vs.toArray.size = 1 then vs.toArray[0] else .tuple vs.toArray) = v → (results fn a.tmps).run cx.P w = .ok v w := by
    rintro v rfl
    rw [hres]
    simp only [Sem.run_bind, hm, Result.andThen_ok, Sem.run_pure]
  cases h2 with
  | nil => exact ⟨_, _, h1, VR.tup [] [] .nil, hrun _ (by simp)⟩
  | @cons av v avs vs hv hr =>
    cases hr with
    | nil => exact ⟨av, v, h1, hv, hrun _ (by simp)⟩
    | @cons av2 v2 avs vs hv2 hr2 => exact ⟨_, _, h1, VR.tup _ _ (.cons hv (.cons hv2 hr2)), hrun _ (by simp)⟩

theorem acall_of (hty : TyOK cx) (hmix : cx.P.follows .mixedOrders = true) {f : FuncId} {fn : Func} (hfn : cx.P.funcs[f]? = some fn) (hname : fn.name ≠ "runtime.NumGoroutine") {args : List AV} {Q : AV → H → Prop}
    (hk : fnx cx (ACall cx.P cx.gl) fn args h Q) : ACall cx.P cx.gl f args h Q := by
  intro g w vs hgl hr hvs
  unfold fnx at hk
  cases hb : fn.body with
  | none => rw [hb] at hk; exact hk.elim
  | some c =>
    rw [hb] at hk
    simp only at hk
    have hlen := hvs.length
    have st : St (args.length + (fn.ntmps - args.length)) [] h w g ⟨args.map .v ++ List.replicate (fn.ntmps - args.length) undefS, []⟩ h { tmps := vs.toArray ++ Array.replicate (fn.ntmps - vs.toArray.size) undef, defers := [] } w := by
      refine ⟨g, [], ⟨by simpa [H.withL] using Inv.refl hr, rfl, by simp, by simp⟩, ⟨rfl, by simp [hlen], ?_⟩, by simp, .refl _⟩
      intro i s v h1 h2
      rcases Nat.lt_or_ge i args.length with hi | hi
      · rw [List.getElem?_append_left (by simpa using hi), List.getElem?_map] at h1
        rw [Array.getElem?_append_left (by simp; omega)] at h2
        cases hx : args[i]? with
        | none => rw [hx] at h1; cases h1
        | some x =>
          rw [hx] at h1
          simp only [Option.map_some, Option.some.injEq] at h1
          subst h1
          obtain ⟨u, hu, hvr⟩ := hvs.get hx
          have : u = v := by simpa [hu] using h2
          subst this
          exact hvr
      · rw [List.getElem?_append_right (by simpa using hi)] at h1
        rw [Array.getElem?_append_right (by simp; omega)] at h2
        have e1 := List.mem_of_getElem? h1
        have e2 := Array.mem_of_getElem? h2
        simp only [List.mem_replicate, Array.mem_replicate] at e1 e2
        rw [e1.2, e2.2]
        exact undef_sr
    have hwp := wpx_sound hty hmix hgl _ c [] _ _ h _ w hk st
    unfold CallsX
    have hcf : (callFunc f vs.toArray).run cx.P w = .ok (.enter f vs.toArray) w := by
      have hn : (fn.name == "runtime.NumGoroutine") = false := by simpa using hname
      have hname' : ¬ (fn.name = "runtime.NumGoroutine") := hname
      simp [callFunc, hfn, hname', hb]
    rw [hcf]
    simp only
    refine calls_of_wp hfn hb (wp_mono hwp ?_)
    rintro e a' w' ⟨htame, fr', h', hq, g', l', s', hf', _, _⟩
    have hgl' := hgl.mono s'.inv.le
    have fin : retP cx fr' h' fn.results.toList Q → bodyPost cx.P fn (fun e w'' => match e with | .returned v => ∃ g' h' av, Q av h' ∧ Inv h w g g' h' w'' ∧ VR g' av v | _ => False) .normal a' w' := by
      intro hk
      obtain ⟨av, v, h1, h2, h3⟩ := retP_sound hty hgl' s' hf' hk
      exact ⟨hf'.defers, v, h3, g', h', av, h1, s'.inv.weaken s'.le, h2⟩
    cases e with
    | normal => exact fin hq
    | ret => exact fin hq
    | _ => exact hq.elim
end
end Go.AM

namespace Go.AM
open Go

mutual
/-- The zero that an abstract value stands for. -/
def zv : AV → Option Value
  | .bool b => some (.bool b)
  | .int k n => some (.int k n)
  | .flt k n => some (.float k n)
  | .str s => some (.string ⟨s.toArray⟩)
  | .ptr none => some (.pointer none)
  | .lst .full _ [] => some (.slice none 0 0)
  | .map none => some (.map none)
  | .nilF => some .nilFunc
  | .nilI => some .nilIface
  | .agg cs => (zvs cs).map fun vs => .agg vs.toArray
  | _ => none
def zvs : List AV → Option (List Value)
  | [] => some []
  | a :: as => match zv a, zvs as with
    | some v, some vs => some (v :: vs)
    | _, _ => none
end

mutual
theorem zv_vr {g : Gh} : ∀ {a : AV} {v : Value}, zv a = some v → VR g a v
  | .bool b, v, h => by simp [zv] at h; subst h; exact .bool _
  | .int k n, v, h => by simp [zv] at h; subst h; exact .int _ _
  | .flt k n, v, h => by simp [zv] at h; subst h; exact .flt _ _
  | .str s, v, h => by simp [zv] at h; subst h; exact .str _
  | .ptr none, v, h => by simp [zv] at h; subst h; exact .nil
  | .ptr (some _), v, h => by simp [zv] at h
  | .lst .full _ [], v, h => by simp [zv] at h; subst h; exact .lstn _ _ trivial
  | .lst .full _ (_ :: _), v, h => by simp [zv] at h
  | .lst .any _ _, v, h => by simp [zv] at h
  | .lst (.own _ _) _ _, v, h => by simp [zv] at h
  | .map none, v, h => by simp [zv] at h; subst h; exact .map _
  | .map (some _), v, h => by simp [zv] at h
  | .nilF, v, h => by simp [zv] at h; subst h; exact .nilF
  | .nilI, v, h => by simp [zv] at h; subst h; exact .nilI
  | .agg cs, v, h => by
    simp only [zv] at h
    cases hz : zvs cs with
    | none => rw [hz] at h; cases h
    | some vs => rw [hz] at h; simp at h; subst h; exact .agg _ _ (zvs_vr hz)
  | .junk, v, h => by simp [zv] at h
  | .ept _ _, v, h => by simp [zv] at h
  | .elp _ _ _ _, v, h => by simp [zv] at h
  | .sl _ _ _ _, v, h => by simp [zv] at h
  | .fn _ _ _, v, h => by simp [zv] at h
  | .ifc _ _, v, h => by simp [zv] at h
  | .tup _, v, h => by simp [zv] at h
theorem zvs_vr {g : Gh} : ∀ {as : List AV} {vs : List Value}, zvs as = some vs → VRs g as vs
  | [], vs, h => by simp [zvs] at h; subst h; exact .nil
  | a :: as, vs, h => by
    simp only [zvs] at h
    cases h1 : zv a with
    | none => rw [h1] at h; cases h
    | some v =>
      cases h2 : zvs as with
      | none => rw [h1, h2] at h; cases h
      | some ws => rw [h1, h2] at h; simp at h; subst h; exact .cons (zv_vr h1) (zvs_vr h2)
end

theorem noTI_ok (P : Program) (t : TypeId) : TIok P t noTI := by
  refine ⟨trivial, fun h => ?_, fun _ h => ?_, fun _ _ h => ?_, fun h => ?_⟩ <;> simp [noTI, TD.isOther, AV.isJunk] at h

theorem tyOK_of {cx : Cx} (h : ∀ (t : Nat) (i : TI), cx.tt[t]? = some i → TIok cx.P t i) : TyOK cx := by
  intro t
  unfold Cx.ti
  rw [List.getD_eq_getElem?_getD]
  cases hx : cx.tt[t]? with
  | none => exact noTI_ok _ _
  | some i => exact h t i hx
end Go.AM
