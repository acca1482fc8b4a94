/-
  Contracts of the store and of the helpers of the laws.
-/
import Derived.Test.YtdeabkkgmlimfaaGreatDoorTurn
import Derived.Test.YtdeabkkgmlimfaaGreatDoorIter
import Derived.Sort.Walk0

set_option linter.unusedVariables false
set_option linter.unusedSimpArgs false

namespace Go.AM
open Go Go.Proofs Go.RowKit Go.Maps Go.Sort Go.Shelf
set_option maxRecDepth 20000
variable (mx : Int)

structure SmOK (m : SMap × Nat) : Prop where
  len : m.1.length ≤ 100000
  born : ∀ e ∈ m.1, e.2.2 < m.2
  nd : (m.1.map (·.2.2)).Nodup
  keys : (m.1.map (·.1)).Nodup
  small : ∀ e ∈ m.1, e.1.length < 1000000 ∧ e.2.1.length < 999999

def sortedKeys (m : SMap) : List (List UInt8) := (m.map (·.1)).mergeSort (fun x y => decide (x ≤ y))

def R0 : Value → Option (DataW Unit × List MemPlace) := fun _ => some (.nil, [])
theorem keyOf_str9 {s : List UInt8} (hs : s.length ≤ 16777216) : keyOf Tryz.prog 9 (.string ⟨s.toArray⟩) = some (.string s) := by
  have hu9 : Tryz.prog.underlying 9 = some .string := by kernel_rfl
  have hsz : (⟨s.toArray⟩ : ByteArray).size ≤ maxLen := by
    rw [Lib.size_eq]; simp; exact Nat.le_trans hs (by decide)
  unfold keyOf
  rw [hu9]
  simp [mapKey, hu9, hsz]

theorem rd_sm {e : List UInt8 × List UInt8 × Nat} (hs : e.1.length ≤ 16777216) : WideElems.rd Tryz.prog 9 R0 ⟨.string ⟨e.1.toArray⟩, .string ⟨e.2.1.toArray⟩, e.2.2⟩ = some (.string e.1, .nil) :=
  WideElems.rd_mk (yv := (.nil, [])) (keyOf_str9 hs) rfl

theorem smM_fit {m : SMap × Nat} (h : SmOK m) : WideElems.Fit Tryz.prog 9 R0 (smM m.1).toArray m.2 where
  size := by simp [smM]; exact Nat.le_trans h.len (by decide)
  stamped := by
    refine ⟨fun x hx => ?_, ?_, ?_⟩
    · simp only [smM, List.mem_map] at hx
      obtain ⟨e, he, rfl⟩ := hx
      exact h.born e he
    · have : (smM m.1).map (·.born) = m.1.map (·.2.2) := by simp [smM, Function.comp_def]
      simp only []
      rw [this]; exact h.nd
    · have : (smM m.1).map (·.key) = (m.1.map (·.1)).map encStr := by simp [smM, Function.comp_def, encStr]
      simp only []
      rw [this]
      exact List.Pairwise.map _ (fun a b hab e => hab (encStr_inj e)) h.keys
  reads := fun x hx => by
    simp only [smM, List.mem_map] at hx
    obtain ⟨e, he, rfl⟩ := hx
    exact ⟨_, rd_sm (Nat.le_trans (Nat.le_of_lt (h.small e he).1) (by decide))⟩

noncomputable def smD (m : SMap) : DataW Unit := .map (((smM m).map (WideElems.rg Tryz.prog 9 R0)).foldr DataW.insert [])
theorem smD_keys {m : SMap × Nat} (h : SmOK m) : (strKeys (smD m.1)).Perm (m.1.map (·.1)) := by
  unfold smD strKeys
  refine ((WideShapes.sorted_perm _).map _).trans (List.Perm.of_eq ?_)
  have hs := h.small
  generalize m.1 = l at hs
  induction l with
  | nil => rfl
  | cons e l ih =>
    have ih := ih (fun e he => hs e (List.mem_cons_of_mem _ he))
    simp only [smM, List.map_cons] at ih ⊢
    rw [ih, WideElems.rg_of (rd_sm (Nat.le_trans (Nat.le_of_lt (hs e (by simp)).1) (by decide)))]
    rfl

theorem smM_owns {m : SMap × Nat} {w : World} {r : Nat} (h : SmOK m) (hm : MapAt r m w) : w.ownsMap Tryz.prog 9 R0 r m.1.length (smD m.1) :=
  ⟨_, m.2, hm, smM_fit h, by simp [smM], rfl⟩

theorem inv_new {g : Gh} {h : H} {w w' : World} (hr : Rel g h w) (hb : Below w.heap.size w w') {b : Nat} {vs : List Value} (h1 : w.heap.size ≤ b) (h3 : ∀ i v, vs[i]? = some v → w'.cell? ⟨b, i, none⟩ = some v) :
    ∃ g', Inv h w g g' h w' ∧ g'.has b 0 vs := by
  have hi := inv_below hr hb
  have hgb : ∀ i, g.im b i = none := fun i => by
    cases e : g.im b i with
    | none => rfl
    | some v => have := World.block_lt_of_cell? _ _ (hr.im _ _ _ e); simp at this; omega
  have hle : g.le ⟨fun c i => if c = b then vs[i]? else g.im c i, g.lim⟩ := ⟨fun c i v hv => by
    simp only; split
    · rename_i e; subst e; rw [hgb] at hv; cases hv
    · exact hv, fun _ _ h => h⟩
  refine ⟨⟨fun c i => if c = b then vs[i]? else g.im c i, g.lim⟩, ⟨⟨fun c i v hv => ?_, hi.rel.lim, fun c o ho => ?_, fun c e he => ?_⟩, hle, hi.size, hi.tape, hi.os, hi.output, fun c hc hm ht => ?_⟩, fun i v hv => ?_⟩
  · simp only at hv
    split at hv
    · rename_i e; subst e; exact h3 i v hv
    · exact hi.rel.im c i v hv
  · have := hr.block ho
    obtain ⟨⟨x, x1, x2⟩, x3, x4⟩ := hi.rel.mm c o ho
    refine ⟨⟨x, x1, x2.mono hle⟩, fun i => ?_, x4⟩
    simp only; rw [if_neg (by omega)]; exact x3 i
  · have := hr.tblock he
    obtain ⟨⟨l, us, T, x1, x2, x3⟩, x4⟩ := hi.rel.tt c e he
    exact ⟨⟨l, us, T, x1, x2, x3⟩, fun i hi' => by simp only; rw [if_neg (by omega)]; exact x4 i hi'⟩
  · obtain ⟨y1, y2, y3, y4⟩ := hi.keep c hc hm ht
    exact ⟨y1, y2, y3, fun i => by simp only; rw [if_neg (by omega)]⟩
  · simp only [if_true, Nat.zero_add]; exact hv

/-- slices.Sorted over maps.Keys. -/
theorem c22 {p r : Nat} {m : SMap × Nat} {h : H} {Q : QQ} (hp : h.m p = some (.cells 52 [.map (some r)])) (hm : h.m r = some (.map (smA m.1) m.2)) (hok : SmOK m) (hq : Q (.lst .any 1 ((sortedKeys m.1).map .str)) h) : AC mx 22 [.fn 41 [] [.ptr (some (p, 0))]] h Q := by
  intro g w vs h1 h2 h3
  obtain ⟨v, rfl, hv⟩ := vrs1 h3
  have hv' : v = .func (.func 41) #[] #[.pointer (some ⟨p, 0, none⟩)] := by
    cases hv with
    | fn _ _ _ vs ws ha hb =>
      cases ha
      cases hb with
      | cons hb hc => cases hb; cases hc; rfl
  subst hv'
  obtain ⟨⟨x, hx, ho⟩, _, _⟩ := h2.mm p _ hp
  cases x <;> simp only [OR] at ho
  rename_i cs ty fz
  obtain ⟨rfl, ho, rfl⟩ := ho
  have hcs : cs = #[.map (some r)] := by
    cases cs with
    | mk l =>
      cases ho with
      | cons ha hb => cases ha; cases hb; rfl
  subst hcs
  have hcell : w.cell? ⟨p, 0, none⟩ = some (.map (some r)) := by simp [World.cell?, hx]
  have hplt := (Array.getElem?_eq_some_iff.1 hx).1
  have hown := smM_owns hok (smA_of h2 hm)
  have hsz : Maps.size (smD m.1) = m.1.length := by
    show (((smM m.1).map (WideElems.rg Tryz.prog 9 R0)).foldr DataW.insert []).length = _
    rw [(WideShapes.sorted_perm _).length_eq]; simp [smM]
  have hl := hok.len
  have hseq : SeqGives Fence.wide 2 Tryz.prog 41 #[.pointer (some ⟨p, 0, none⟩)] encStr (fun ss => ss.Perm (strKeys (smD m.1))) (Maps.size (smD m.1)) w :=
    AnyZ.keys_gives (ρ := Tryz.keys23_ren) { Tryz.keys23 with } Fence.wide _ trivial rfl (by omega) p r m.1.length (smD m.1) w hplt hcell hown
  have key := AnyZ.sorted_in Tryz.sorted22 Fence.wide 5 trivial trivial trivial trivial rfl (by omega) (Tryz.sorts22 _) (enters_of Tryz.func40 (by kernel_rfl) rfl) 41 #[.pointer (some ⟨p, 0, none⟩)] trivial (enters_of Tryz.func41 (by kernel_rfl) rfl) _ _ (by rw [hsz]; exact Nat.le_trans hl (by decide)) (by rw [hsz]; omega) _ hseq
  unfold CallsX
  rw [enters_of Tryz.func22 (by kernel_rfl) rfl]
  refine (callsIn_wide.1 key).mono ?_
  rintro e w' ⟨v, ss, rfl, hss, hrow, hnil, hbel⟩
  have hsort : ss.mergeSort (fun x y => decide (x ≤ y)) = sortedKeys m.1 := mergeSort_of_perm (hss.trans (smD_keys hok))
  have hlen : ss.length = (sortedKeys m.1).length := by rw [← hsort, (List.mergeSort_perm ss _).length_eq]
  rw [hsort] at hrow
  rcases hrow with ⟨hrl, ⟨rfl, hz⟩ | ⟨gb, cap, cur, rfl, hbase, hgb, r1, r2, r3, r4⟩⟩
  · have : sortedKeys m.1 = [] := List.eq_nil_of_length_eq_zero (by rw [← hlen]; exact hz)
    refine ⟨g, h, _, hq, inv_below h2 hbel, ?_⟩
    rw [this]; exact .lstn _ _ trivial
  · have hn : ∀ i v, ((sortedKeys m.1).map encStr)[i]? = some v → w'.cell? ⟨gb, i, none⟩ = some v := fun i v hv => by
      rw [← r4, List.getElem?_take] at hv
      split at hv
      · simpa [World.cell?, hgb] using hv
      · cases hv
    obtain ⟨g', hi, hhas⟩ := inv_new h2 hbel (b := gb) hbase hn
    refine ⟨g', h, _, hq, hi, ?_⟩
    have hL : ((sortedKeys m.1).map AV.str).length = ss.length := by rw [List.length_map, hlen]
    rw [← hL]
    refine .lst .any 1 _ ((sortedKeys m.1).map encStr) gb 0 cap ?_ ?_ hhas trivial (by rw [hL]; exact r1)
    · rw [flat_strs]
      generalize sortedKeys m.1 = l
      induction l with
      | nil => exact .nil
      | cons s l ih => exact .cons (.str s) ih
    · intro x hx
      simp only [List.mem_map] at hx
      obtain ⟨s, _, rfl⟩ := hx
      rfl

theorem c24 {s p : List UInt8} {h : H} {Q : QQ} (hq : Q (.bool (p.isPrefixOf s)) h) : AC mx 24 [.str s, .str p] h Q := by
  refine ac_calls mx (enters_of Tryz.func24 (by kernel_rfl) rfl) fun g w vs h1 h2 h3 => ?_
  obtain ⟨v, u, rfl, hv, hu⟩ := vrs2 h3
  cases hv; cases hu
  refine (tb_hasPrefix24 _ _ w).mono ?_
  rintro e w' ⟨rfl, rfl⟩
  exact ⟨_, rfl, Below.refl _ _, _, .bool _, hq⟩
end Go.AM

namespace Go.AM
open Go Go.Proofs
set_option maxRecDepth 20000
variable (mx : Int)

def chgAV (c : Chg) : AV := .agg [.str c.1, .str c.2.1, .bool c.2.2]

theorem encL_take (cs : List Chg) {n : Nat} (hn : n < cs.length) : encL (cs.take (n + 1)) = encL (cs.take n) ++ [cs[n].1, opStr cs[n]] := by
  rw [List.take_add_one, List.getElem?_eq_getElem hn]
  unfold encL
  rw [List.flatMap_append]; rfl

theorem tail_le {h0 h h' : H} {t t' : Tag} (hle : h0.le h) (hfr : ∀ b ∈ tids t, h0.free b) (s : TStep h t h' t') : h0.le h' ∧ ∀ b ∈ tids t', h0.free b := by
  refine ⟨⟨fun b o hb => by rw [s.m]; exact hle.1 b o hb, fun b e hb => s.ts b e (fun hx => ?_) (hle.2 b e hb)⟩, fun b hb => ?_⟩
  · have := (hfr b hx).2; rw [hb] at this; cases this
  · rcases s.new b hb with h2 | h2
    · exact hfr b h2
    · refine ⟨?_, ?_⟩
      · cases hc : h0.m b with
        | none => rfl
        | some o => have := hle.1 b o hc; rw [h2.1] at this; cases this
      · cases hc : h0.t b with
        | none => rfl
        | some o => have := hle.2 b o hc; rw [h2.2] at this; cases this

theorem c20 {t : Tag} {cs : List Chg} {h : H} {Q : QQ} (ht : T3 h) (hn : cs.length ≤ 1000000) (hok : ∀ c ∈ cs, c.2.1.length < 1000000) (hl : (textsL (encL cs)).length ≤ 140737488355328)
    (hq : Q (.lst .any 1 (ofStr (textsL (encL cs)))) h) : AC mx 20 [.lst t 3 (cs.map chgAV)] h Q := by
  refine ACall.weaken (Q := fun v h' => h.le h' ∧ v = .lst .any 1 (ofStr (textsL (encL cs)))) ?_ (by rintro v h' ⟨h1, rfl⟩; exact ⟨h, h1, hq⟩)
  refine k20 mx _ ?_
  unfold sh20
  rw [lenL_lst, List.length_map]
  intro I hI
  have main : ∀ n, n ≤ cs.length → ∀ h1 t1, h.le h1 → TLive h1 t1 → (∀ b ∈ tids t1, h.free b) → I (.lst t1 1 ((encL (cs.take n)).map .str)) (n : Nat) h1 := by
    refine downTo ?_ ?_
    · intro h1 t1 hle _ _
      refine hI _ _ _ (ifB_f (lss_f (by omega)) ?_)
      rw [List.take_length]
      refine c35 mx (t3_le hle ht) hl (by rw [encL_len]; omega) ?_
      rw [onC_S]
      exact ⟨by omega, hle, rfl⟩
    · intro n hn' ih h1 t1 hle hlv hfr
      refine hI _ _ _ (ifB_t (lss_t (by omega)) ?_)
      refine idxP_lstN (by rw [List.length_map]; exact hn') ?_
      refine ldM_elpA (cs := [.str cs[n].1, .str cs[n].2.1, .bool cs[n].2.2]) (by simp [hn', chgAV]) (by simp) ?_
      show (_ ∧ _)
      have := hok _ (List.getElem_mem hn')
      refine ⟨by simp; omega, fun J hJ => ?_⟩
      have fin : J (opStr cs[n]) h1 := by
        refine hJ _ _ ⟨rfl, ?_⟩
        refine ap_intro (t := t1) rfl (by decide) ?_ ?_ hlv fun t' h' s => ?_
        · intro y hy
          simp only [List.mem_cons, List.not_mem_nil, or_false] at hy
          rcases hy with rfl | rfl <;> exact ⟨rfl, fun c hc => by simp [AV.cells] at hc; subst hc; rfl⟩
        · rw [List.length_map, encL_len, List.length_take]; show (2 * min n _ + 2) * 16 ≤ _; omega
        · refine ⟨rfl, rfl, ?_⟩
          rw [ar_add (by omega) (by omega)]
          have e : (encL (cs.take (n + 1))).map AV.str = (encL (cs.take n)).map AV.str ++ [.str cs[n].1, .str (opStr cs[n])] := by
            rw [encL_take cs hn']; simp
          rw [← e]
          obtain ⟨q1, q2⟩ := tail_le hle hfr s
          exact ih h' t' q1 s.live q2
      unfold opStr at fin
      cases hd : cs[n].2.2
      · rw [hd] at fin
        exact ifB_f rfl ⟨rfl, rfl, rfl, rfl, rfl, rfl, rfl, fin⟩
      · rw [hd] at fin
        exact ifB_t rfl ⟨rfl, rfl, rfl, rfl, rfl, rfl, rfl, fin⟩
  exact main 0 (by omega) h .full (H.le_refl h) trivial (by simp [tids])

def fullE (e : Int) : Int := if e = 1 then 3 else e
theorem c36 {e : Int} {h : H} {Q : QQ} (hq : Q (.int .i64 (fullE e)) h) : AC mx 36 [.int .i64 e] h Q := by
  refine k36 mx _ ?_
  unfold sh36
  unfold fullE at hq
  by_cases he : e = 1
  · rw [if_pos he] at hq; exact ifB_t (eql_t he) hq
  · rw [if_neg he] at hq; exact ifB_f (eql_f he) hq

/-- A store's own two objects. -/
structure SAt1 (h : H) (s q r : Nat) (m : SMap × Nat) : Prop where
  hs : h.m s = some (.cells 54 [.ptr (some (q, 0)), .map (some r)])
  hr : h.m r = some (.map (smA m.1) m.2)
  ok : SmOK m

theorem mfind_sm (k : List UInt8) : ∀ (m : SMap) (i : Nat) (K : Option (Nat × AV) → Prop), K ((smFind k m i).map fun x => (x.1, .str x.2)) → mfind .str (.str k) (smA m) i K
  | [], _, _, h => h
  | e :: m, i, K, h => by
    show mfind .str (.str k) ((.str e.1, .str e.2.1, e.2.2) :: smA m) i K
    simp only [mfind, eqT]
    simp only [smFind] at h
    by_cases he : e.1 = k
    · rw [if_pos he] at h
      have : (k == e.1) = true := by rw [he]; simp
      rw [this]; exact h
    · rw [if_neg he] at h
      have : (k == e.1) = false := by rw [beq_eq_false_iff_ne]; exact fun e' => he e'.symm
      rw [this]; exact mfind_sm k m (i + 1) K h

def smGet (m : SMap) (k : List UInt8) : Option (List UInt8) := (smFind k m 0).map (·.2)
def smGetB (m : SMap) (k : List UInt8) : List UInt8 := (smGet m k).getD []

theorem c7 {s q r : Nat} {m : SMap × Nat} {k : List UInt8} {h : H} {Q : QQ} (hs : SAt1 h s q r m) (hq : Q (.tup [.str (smGetB m.1 k), .bool (smGet m.1 k).isSome]) h) : AC mx 7 [.ptr (some (s, 0)), .str k] h Q := by
  refine k7 mx _ _ ?_
  unfold sh7
  rw [nilPtr_ptr]
  refine ifB_f rfl ?_
  refine nn <| ld1_ptr hs.hs (c := .map (some r)) rfl ?_
  unfold lookP
  simp only [hs.hr]
  refine mfind_sm k m.1 0 _ ?_
  unfold smGetB smGet at hq
  cases hf : smFind k m.1 0 with
  | none => rw [hf] at hq; exact hq
  | some x => rw [hf] at hq; exact hq
theorem c7n {k : List UInt8} {h : H} {Q : QQ} (hq : Q (.tup [.str [], .bool false]) h) : AC mx 7 [.ptr none, .str k] h Q := k7 mx _ _ hq
theorem c11n {h : H} {Q : QQ} (hq : Q (.int .i64 0) h) : AC mx 11 [.ptr none] h Q := k11 mx _ hq
theorem c10n {k : List UInt8} {h : H} {Q : QQ} (hq : Q (.lst .full 1 []) h) : AC mx 10 [.ptr none, .str k] h Q := k10 mx _ _ hq
theorem c9n {l : AV} {h : H} {Q : QQ} (hq : Q (.int .i64 1) h) : AC mx 9 [.ptr none, l] h Q := k9 mx _ _ hq

theorem c11 {s q r p : Nat} {m : SMap × Nat} {L : Lg} {D : Dk} {h : H} {ids : List Nat} {Q : QQ} (hs : SAt1 h s q r m) (w : WAt q p L D h ids) (hq : Q (.int .i64 (L.gen : Int)) h) : AC mx 11 [.ptr (some (s, 0))] h Q := by
  refine k11 mx _ ?_
  unfold sh11
  rw [nilPtr_ptr]
  refine ifB_f rfl ?_
  refine nn <| ld1_ptr hs.hs (c := .ptr (some (q, 0))) rfl ?_
  refine c25 mx w ?_
  rw [onC_I]
  exact hq

/-- Keys that begin so. -/
theorem c10 {s q r : Nat} {m : SMap × Nat} {p : List UInt8} {h : H} {Q : QQ} (hs : SAt1 h s q r m) (hq : ∀ t, Q (.lst t 1 (((sortedKeys m.1).filter fun k => p.isPrefixOf k).map .str)) h) : AC mx 10 [.ptr (some (s, 0)), .str p] h Q := by
  refine ACall.weaken (Q := fun v h' => h.le h' ∧ ∃ t, v = .lst t 1 (((sortedKeys m.1).filter fun k => p.isPrefixOf k).map .str)) ?_ (by rintro v h' ⟨h1, t, rfl⟩; exact ⟨h, h1, hq t⟩)
  refine k10 mx _ _ ?_
  unfold sh10
  rw [nilPtr_ptr]
  refine ifB_f rfl ?_
  refine nn <| ld1_ptr hs.hs (c := .map (some r)) rfl ?_
  refine k23 mx _ ?_
  unfold sh23
  refine oneP_intro rfl ?_
  intro pb hfree
  have hle0 := le_put (o := .cells 52 [.map (some r)]) hfree
  refine c22 mx (r := r) (m := m) put_same (hle0.1 _ _ hs.hr) hs.ok ?_
  rw [lenL_lst, List.length_map]
  intro I hI
  have hlen : (sortedKeys m.1).length ≤ 16777216 := by
    unfold sortedKeys; rw [(List.mergeSort_perm _ _).length_eq, List.length_map]; exact Nat.le_trans hs.ok.len (by decide)
  generalize sortedKeys m.1 = ks at hI hlen
  have main : ∀ n, n ≤ ks.length → ∀ h1 t1, h.le h1 → TLive h1 t1 → (∀ b ∈ tids t1, h.free b) → I (.lst t1 1 (((ks.take n).filter fun k => p.isPrefixOf k).map .str)) (n : Nat) h1 := by
    refine downTo ?_ ?_
    · intro h1 t1 hle _ _
      refine hI _ _ _ (ifB_f (lss_f (by omega)) ⟨hle, t1, by rw [List.take_length]⟩)
    · intro n hn' ih h1 t1 hle hlv hfr
      refine hI _ _ _ (ifB_t (lss_t (by omega)) ?_)
      intro J hJ
      refine idxP_lstN (by rw [List.length_map]; exact hn') ?_
      refine ld1_elp (x := .str ks[n]) (by simp [hn']) rfl ?_
      rw [onC_S]
      refine c24 mx ?_
      rw [onC_B]
      have e : (ks.take (n + 1)).filter (fun k => p.isPrefixOf k) = (ks.take n).filter (fun k => p.isPrefixOf k) ++ (if p.isPrefixOf ks[n] then [ks[n]] else []) := by
        rw [List.take_add_one, List.getElem?_eq_getElem hn', List.filter_append]; simp [List.filter_cons]
      have hlf : ((ks.take n).filter fun k => p.isPrefixOf k).length ≤ 16777216 := by
        have := List.length_filter_le (fun k => p.isPrefixOf k) (ks.take n)
        rw [List.length_take] at this; omega
      cases hb : p.isPrefixOf ks[n]
      · rw [hb] at e
        refine ifB_f rfl ⟨rfl, rfl, rfl, rfl, hJ _ _ ⟨rfl, rfl, rfl, ?_⟩⟩
        rw [ar_add (by omega) (by omega)]
        have ih := ih h1 t1 hle hlv hfr
        rw [e, if_neg (by simp), List.append_nil] at ih
        exact ih
      · rw [hb] at e
        refine ifB_t rfl ⟨rfl, ?_⟩
        refine ap_intro (t := t1) rfl (by decide) ?_ ?_ hlv fun t' h' s => ?_
        · intro y hy; simp at hy; subst hy; exact ⟨rfl, fun c hc => by simp [AV.cells] at hc; subst hc; rfl⟩
        · rw [List.length_map]; show (_ + 1) * 16 ≤ _; omega
        · refine ⟨rfl, rfl, rfl, rfl, hJ _ _ ⟨rfl, rfl, rfl, ?_⟩⟩
          rw [ar_add (by omega) (by omega)]
          obtain ⟨q1, q2⟩ := tail_le hle hfr s
          have ih := ih h' t' q1 s.live q2
          rw [e, if_pos rfl, List.map_append] at ih
          exact ih
  exact main 0 (by omega) _ .full hle0 trivial (by simp [tids])
end Go.AM

namespace Go.AM
open Go Go.Proofs
set_option maxRecDepth 20000
variable (mx : Int)

theorem textsL_le : ∀ (xs : List (List UInt8)), (∀ x ∈ xs, x.length < 1000000) → (textsL xs).length ≤ xs.length * 1000010
  | [], _ => by simp [textsL]
  | x :: r, h => by
    have ih := textsL_le r fun y hy => h y (List.mem_cons_of_mem _ hy)
    have hx := h x (by simp)
    have hl := dec_len 5 x.length (by simpa using hx)
    simp only [textsL, List.length_append, List.length_cons, List.length_nil, itoa_nat]
    omega
theorem textsL_mem : ∀ {xs : List (List UInt8)} {x : List UInt8}, x ∈ xs → x.length ≤ (textsL xs).length
  | [], _, h => by cases h
  | y :: r, x, h => by
    simp only [textsL, List.length_append]
    rcases List.mem_cons.1 h with rfl | h
    · omega
    · have := textsL_mem h; omega
theorem encL_mem {cs : List Chg} {x : List UInt8} (h : x ∈ encL cs) : ∃ c ∈ cs, x = c.1 ∨ x = opStr c := by
  simp only [encL, List.mem_flatMap] at h
  obtain ⟨c, hc, hx⟩ := h
  simp only [List.mem_cons, List.not_mem_nil, or_false] at hx
  exact ⟨c, hc, hx⟩
theorem opStr_len (c : Chg) : (opStr c).length ≤ c.2.1.length + 1 := by unfold opStr; split <;> simp
theorem rec_le {cs : List Chg} (h : ∀ c ∈ cs, c.1.length < 1000000 ∧ c.2.1.length < 999999) : (textsL (encL cs)).length ≤ 2 * cs.length * 1000010 := by
  have := textsL_le (encL cs) fun x hx => by
    obtain ⟨c, hc, rfl | rfl⟩ := encL_mem hx
    · exact (h c hc).1
    · have := opStr_len c; have := (h c hc).2; omega
  rw [encL_len] at this
  exact this

/-- All rows as changes. -/
def allOf (m : SMap) : List Chg := (sortedKeys m).map fun k => (k, smGetB m k, false)
theorem smGetB_mem {m : SMap} {k : List UInt8} : smGetB m k = [] ∨ ∃ e ∈ m, e.2.1 = smGetB m k := by
  unfold smGetB smGet
  cases hf : smFind k m 0 with
  | none => exact .inl rfl
  | some x =>
    obtain ⟨e, _, h2, _, h4⟩ := smFind_spec k m 0 x.1 x.2 hf
    exact .inr ⟨e, List.mem_of_getElem? h2, h4⟩
theorem allOf_ok {m : SMap × Nat} (h : SmOK m) : (allOf m.1).length ≤ 100000 ∧ ∀ c ∈ allOf m.1, c.1.length < 1000000 ∧ c.2.1.length < 999999 := by
  refine ⟨?_, fun c hc => ?_⟩
  · unfold allOf sortedKeys; rw [List.length_map, (List.mergeSort_perm _ _).length_eq, List.length_map]; exact h.len
  · unfold allOf at hc
    simp only [List.mem_map] at hc
    obtain ⟨k, hk, rfl⟩ := hc
    have hk := (List.mergeSort_perm _ _).mem_iff.1 hk
    simp only [List.mem_map] at hk
    obtain ⟨e, he, rfl⟩ := hk
    refine ⟨(h.small e he).1, ?_⟩
    rcases smGetB_mem (m := m.1) (k := e.1) with h1 | ⟨e', he', h1⟩
    · simp [h1]
    · simp only; rw [← h1]; exact (h.small e' he').2

/-- What an append does: to the log, the disk; the word. -/
def apdS (L : Lg) (D : Dk) (m : SMap) (b : List UInt8) : Lg × Dk × Int :=
  if fullE (appL L D b).2.2 ≠ 3 then ((appL L D b).1, (appL L D b).2.1, fullE (appL L D b).2.2)
  else if fullE (chkL (appL L D b).1 (appL L D b).2.1 (textsL (encL (allOf m)))).2.2 ≠ 0 then
    ((chkL (appL L D b).1 (appL L D b).2.1 (textsL (encL (allOf m)))).1, (chkL (appL L D b).1 (appL L D b).2.1 (textsL (encL (allOf m)))).2.1, fullE (chkL (appL L D b).1 (appL L D b).2.1 (textsL (encL (allOf m)))).2.2)
  else ((appL (chkL (appL L D b).1 (appL L D b).2.1 (textsL (encL (allOf m)))).1 (chkL (appL L D b).1 (appL L D b).2.1 (textsL (encL (allOf m)))).2.1 b).1,
    (appL (chkL (appL L D b).1 (appL L D b).2.1 (textsL (encL (allOf m)))).1 (chkL (appL L D b).1 (appL L D b).2.1 (textsL (encL (allOf m)))).2.1 b).2.1,
    fullE (appL (chkL (appL L D b).1 (appL L D b).2.1 (textsL (encL (allOf m)))).1 (chkL (appL L D b).1 (appL L D b).2.1 (textsL (encL (allOf m)))).2.1 b).2.2)

theorem appL_loose {L : Lg} {D : Dk} {b : List UInt8} (hb : b.length ≤ 8192) : (appL L D b).2.1.loose.length ≤ D.loose.length + 200 := by
  have h1 : (D.exec (layCmds L.at_ L.gen b)).1.loose.length ≤ D.loose.length + 200 := by
    have := exec_loose_le (cs := layCmds L.at_ L.gen b) (D := D)
    have := lay_len L.at_ L.gen b hb
    omega
  unfold appL
  split
  · simp
  · split
    · split
      · exact h1
      · exact h1
    · simp
theorem appL_lasts {L : Lg} {D : Dk} {b : List UInt8} : (appL L D b).2.1.lasts.length = D.lasts.length := by
  unfold appL
  split
  · rfl
  · split
    · split <;> exact exec_lasts
    · rfl
theorem chkL_lasts {L : Lg} {D : Dk} {b : List UInt8} : (chkL L D b).2.1.lasts.length = D.lasts.length := by
  unfold chkL
  split
  · rfl
  · split
    · rfl
    · split
      · rfl
      · split <;> exact exec_lasts
theorem hi_up (n g : Nat) : hi n g ≤ n + 2 := by 
  unfold hi lo half
  rcases Nat.mod_two_eq_zero_or_one g with e | e <;> rw [e] <;> omega
theorem chkL_loose {L : Lg} {D : Dk} {b : List UInt8} (hn : D.lasts.length ≤ 1024) : (chkL L D b).2.1.loose.length ≤ D.loose.length + 3000 := by
  unfold chkL
  split
  · simp
  · split
    · simp
    · rename_i h1 h2
      split
      · simp
      · have h1 : (D.exec (chkCmds D (L.gen + 1) b)).1.loose.length ≤ D.loose.length + 3000 := by
          have e1 := exec_loose_le (cs := chkCmds D (L.gen + 1) b) (D := D)
          have e2 := clean_len D (lo D.lasts.length (L.gen + 1)) (hi D.lasts.length (L.gen + 1))
          have e3 := lay_len (lo D.lasts.length (L.gen + 1)) (L.gen + 1) b (by omega)
          have e4 := hi_up D.lasts.length (L.gen + 1)
          have e5 : (instCmds (L.gen + 1)).length ≤ 10 := by unfold instCmds; simp
          unfold chkCmds at e1 ⊢
          rw [List.length_append, List.length_append] at e1
          omega
        split <;> exact h1

/-- A store, and all that it holds. -/
structure STat (h : H) (s q r p : Nat) (L : Lg) (D : Dk) (m : SMap × Nat) (ids : List Nat) : Prop where
  st : SAt1 h s q r m
  w : WAt q p L D h ids
  ns : s ∉ ids
  nr : r ∉ ids
  t3 : T3 h
  n3 : 3 ∉ ids

theorem Stay.keep {h h' : H} {ids ids' : List Nat} (s : Stay h h' ids ids') {b : Nat} {o : MObj} (hb : b ∉ ids) (ho : h.m b = some o) : h'.m b = some o ∧ b ∉ ids' := by
  refine ⟨s.m b o hb ho, fun hi => ?_⟩
  rcases s.new b hi with h1 | h1
  · exact hb h1
  · rw [h1.1] at ho; cases ho

theorem STat.step {h h' : H} {s q r p : Nat} {L L' : Lg} {D D' : Dk} {m : SMap × Nat} {ids ids' : List Nat} (x : STat h s q r p L D m ids) (w' : WAt q p L' D' h' ids') (st : Stay h h' ids ids') : STat h' s q r p L' D' m ids' := by
  obtain ⟨a1, a2⟩ := st.keep x.ns x.st.hs
  obtain ⟨b1, b2⟩ := st.keep x.nr x.st.hr
  obtain ⟨c1, c2⟩ := st.keep x.n3 x.t3
  exact ⟨⟨a1, b1, x.st.ok⟩, w', a2, b2, c1, c2⟩

theorem wat_len {q p : Nat} {L : Lg} {D : Dk} {h : H} {ids : List Nat} (w : WAt q p L D h ids) : D.lasts.length ≤ 1024 := by
  obtain ⟨js, rfl, w⟩ := w
  exact (dat_ok w.hd).n

set_option maxHeartbeats 1000000 in
theorem c21 {s q r p : Nat} {L : Lg} {D : Dk} {m : SMap × Nat} {ids : List Nat} {h : H} {t : Tag} {b : List UInt8} {Q : QQ} (x : STat h s q r p L D m ids) (hb : b.length ≤ 8192) (hln : D.loose.length ≤ 900000)
    (hq : ∀ h' ids', STat h' s q r p (apdS L D m.1 b).1 (apdS L D m.1 b).2.1 m ids' → Stay h h' ids ids' → Q (.int .i64 (apdS L D m.1 b).2.2) h') : AC mx 21 [.ptr (some (s, 0)), .lst t 1 (ofStr b)] h Q := by
  refine k21 mx _ _ ?_
  unfold sh21
  refine nn <| ld1_ptr x.st.hs (c := .ptr (some (q, 0))) rfl ?_
  refine c37 mx x.w hb (by omega) fun h1 ids1 w1 s1 => ?_
  have x1 := x.step w1 s1
  have hl1 := appL_loose (L := L) (D := D) hb
  have hn1 : (appL L D b).2.1.lasts.length ≤ 1024 := wat_len w1
  rw [onC_I]
  refine c36 mx ?_
  rw [onC_I]
  unfold apdS at hq
  by_cases hne : fullE (appL L D b).2.2 ≠ 3
  · rw [if_pos hne] at hq
    exact ifB_t (neq_t hne) (hq h1 ids1 x1 s1)
  rw [if_neg hne] at hq
  refine ifB_f (neq_f (by omega)) ?_
  generalize (appL L D b).1 = L1 at hq x1 w1
  generalize (appL L D b).2.1 = D1 at hq x1 w1 hl1 hn1
  refine c10 mx (r := r) (m := m) x1.st fun t1 => ?_
  have hfil : (sortedKeys m.1).filter (fun k => ([] : List UInt8).isPrefixOf k) = sortedKeys m.1 := by rw [List.filter_eq_self]; intro a _; cases a <;> rfl
  rw [hfil, lenL_lst, List.length_map]
  obtain ⟨al1, al2⟩ := allOf_ok x.st.ok
  have hlen : (sortedKeys m.1).length ≤ 100000 := by unfold allOf at al1; rwa [List.length_map] at al1
  have hrec := rec_le al2
  intro I hI
  have main : ∀ n, n ≤ (sortedKeys m.1).length → ∀ h2 t2, h1.le h2 → TLive h2 t2 → (∀ b ∈ tids t2, h1.free b) → I (.lst t2 3 (((allOf m.1).take n).map chgAV)) (n : Nat) h2 := by
    refine downTo ?_ ?_
    · intro h2 t2 hle _ _
      have x2 : STat h2 s q r p L1 D1 m ids1 := by
        obtain ⟨js, rfl, w⟩ := x1.w
        have hw := (wat_obj q p L1 D1).le _ _ _ ⟨js, rfl, w⟩ fun b _ => ⟨hle.1 b, hle.2 b⟩
        exact ⟨⟨hle.1 _ _ x1.st.hs, hle.1 _ _ x1.st.hr, x1.st.ok⟩, hw, x1.ns, x1.nr, t3_le hle x1.t3, x1.n3⟩
      have hsl : Stay h h2 ids ids1 := ⟨fun b o hb ho => hle.1 b o (s1.m b o hb ho), fun b e hb he => hle.2 b e (s1.t b e hb he), s1.new⟩
      refine hI _ _ _ (ifB_f (lss_f (by omega)) ?_)
      have htk : (allOf m.1).take (sortedKeys m.1).length = allOf m.1 := by
        have : (allOf m.1).length = (sortedKeys m.1).length := by unfold allOf; rw [List.length_map]
        rw [← this, List.take_length]
      rw [htk]
      intro J hJ
      have fin : ∀ h3 ids2, STat h3 s q r p (chkL L1 D1 (textsL (encL (allOf m.1)))).1 (chkL L1 D1 (textsL (encL (allOf m.1)))).2.1 m ids2 → Stay h h3 ids ids2 → J (fullE (chkL L1 D1 (textsL (encL (allOf m.1)))).2.2) h3 := by
        intro h3 ids2 x3 s3
        refine hJ _ _ ?_
        have hl2 := chkL_loose (L := L1) (D := D1) (b := textsL (encL (allOf m.1))) hn1
        generalize (chkL L1 D1 (textsL (encL (allOf m.1)))).1 = L2 at hq x3
        generalize (chkL L1 D1 (textsL (encL (allOf m.1)))).2.1 = D2 at hq x3 hl2
        by_cases hz : fullE (chkL L1 D1 (textsL (encL (allOf m.1)))).2.2 ≠ 0
        · rw [if_pos hz] at hq
          exact ifB_t (neq_t hz) (hq h3 ids2 x3 s3)
        · rw [if_neg hz] at hq
          refine ifB_f (neq_f (by omega)) ?_
          refine nn <| ld1_ptr x3.st.hs (c := .ptr (some (q, 0))) rfl ?_
          refine c37 mx x3.w hb (by omega) fun h4 ids4 w4 s4 => ?_
          rw [onC_I]
          refine c36 mx ?_
          rw [onC_I]
          exact hq h4 ids4 (x3.step w4 s4) (s3.trans s4)
      refine nn ⟨?_, ?_⟩
      · refine ld1_ptr x2.st.hs (c := .ptr (some (q, 0))) rfl ?_
        refine c20 mx x2.t3 (by omega) (fun c hc => by have := (al2 c hc).2; omega) (by omega) ?_
        refine c38 mx x2.w (by omega) (by omega) fun h3 ids2 w3 s3 => ?_
        rw [onC_I]
        refine c36 mx ?_
        rw [onC_I]
        exact ⟨rfl, rfl, fin h3 ids2 (x2.step w3 s3) (hsl.trans s3)⟩
      · refine c20 mx x2.t3 (by omega) (fun c hc => by have := (al2 c hc).2; omega) (by omega) ?_
        refine ld1_ptr x2.st.hs (c := .ptr (some (q, 0))) rfl ?_
        refine c38 mx x2.w (by omega) (by omega) fun h3 ids2 w3 s3 => ?_
        rw [onC_I]
        refine c36 mx ?_
        rw [onC_I]
        exact ⟨rfl, rfl, fin h3 ids2 (x2.step w3 s3) (hsl.trans s3)⟩
    · intro n hn ih h2 t2 hle hlv hfr
      refine hI _ _ _ (ifB_t (lss_t (by omega)) ?_)
      refine idxP_lstN (by rw [List.length_map]; exact hn) ?_
      refine ld1_elp (x := .str (sortedKeys m.1)[n]) (by simp [hn]) rfl ?_
      rw [onC_S]
      refine nn <| ld1_ptr (hle.1 _ _ x1.st.hs) (c := .map (some r)) rfl ?_
      unfold lookP
      simp only [hle.1 _ _ x1.st.hr]
      refine mfind_sm _ m.1 0 _ ?_
      have hal : n < (allOf m.1).length := by unfold allOf; rw [List.length_map]; exact hn
      have hel : (allOf m.1)[n] = ((sortedKeys m.1)[n], smGetB m.1 (sortedKeys m.1)[n], false) := by simp [allOf]
      have go : ∀ v, v = smGetB m.1 (sortedKeys m.1)[n] → [0] = List.range 1 ∧ apP tt31 h2 (.lst t2 3 (((allOf m.1).take n).map chgAV)) [.agg [.str (sortedKeys m.1)[n], .str v, .bool false]] fun v32 h33 => True ∧ True ∧ True ∧ True ∧ I v32 (ar .add .i64 (n : Nat) (1)) h33 := by
        rintro v rfl
        refine ⟨rfl, ap_intro (t := t2) rfl (by decide) ?_ ?_ hlv fun t' h' s => ?_⟩
        · intro y hy; simp only [List.mem_cons, List.not_mem_nil, or_false] at hy; subst hy
          exact ⟨rfl, fun c hc => by simp [AV.cells] at hc; rcases hc with rfl | rfl | rfl <;> rfl⟩
        · rw [List.length_map, List.length_take]; show (min n _ + 1) * 40 ≤ _; omega
        · refine ⟨trivial, trivial, trivial, trivial, ?_⟩
          rw [ar_add (by omega) (by omega)]
          obtain ⟨q1, q2⟩ := tail_le hle hfr s
          have ih := ih h' t' q1 s.live q2
          rw [List.take_add_one, List.getElem?_eq_getElem hal, hel] at ih
          simp only [Option.toList_some, List.map_append, List.map_cons, List.map_nil] at ih
          exact ih
      unfold smGetB smGet at go
      cases hf : smFind (sortedKeys m.1)[n] m.1 0 with
      | none => rw [hf] at go; exact go _ rfl
      | some y => rw [hf] at go; exact go _ rfl
  exact main 0 (by omega) h1 .full (H.le_refl h1) trivial (by simp [tids])
end Go.AM

namespace Go.AM
open Go Go.Proofs
set_option maxRecDepth 20000
variable (mx : Int)

def recOf (cs : List Chg) : List UInt8 := textsL (encL cs)
/-- What a commit does. -/
def comS (L : Lg) (D : Dk) (m : SMap × Nat) (cs : List Chg) : Lg × Dk × (SMap × Nat) × Int :=
  if cs = [] then (L, D, m, 0)
  else if 8192 < (recOf cs).length then (L, D, m, 3)
  else if (apdS L D m.1 (recOf cs)).2.2 ≠ 0 then ((apdS L D m.1 (recOf cs)).1, (apdS L D m.1 (recOf cs)).2.1, m, (apdS L D m.1 (recOf cs)).2.2)
  else ((apdS L D m.1 (recOf cs)).1, (apdS L D m.1 (recOf cs)).2.1, smChgs m cs, 0)

theorem STat.sr {h : H} {s q r p : Nat} {L : Lg} {D : Dk} {m : SMap × Nat} {ids : List Nat} (x : STat h s q r p L D m ids) : s ≠ r ∧ 3 ≠ r ∧ 3 ≠ s := by
  refine ⟨?_, ?_, ?_⟩
  · rintro rfl; have := x.st.hs; rw [x.st.hr] at this; cases this
  · rintro rfl; have := x.t3; unfold T3 at this; rw [x.st.hr] at this; cases this
  · rintro rfl; have := x.t3; unfold T3 at this; rw [x.st.hs] at this; cases this

/-- Another map in its place. -/
theorem STat.putMap {h : H} {s q r p : Nat} {L : Lg} {D : Dk} {m m' : SMap × Nat} {ids : List Nat} (x : STat h s q r p L D m ids) (hok : SmOK m') : STat (h.put r (.map (smA m'.1) m'.2)) s q r p L D m' ids := by
  obtain ⟨n1, n2, _⟩ := x.sr
  refine ⟨⟨by rw [put_other n1]; exact x.st.hs, put_same, hok⟩, ?_, x.ns, x.nr, by unfold T3; rw [put_other n2]; exact x.t3, x.n3⟩
  refine (wat_obj q p L D).le _ _ _ x.w fun b hb => ⟨fun o ho => ?_, fun e he => he⟩
  rw [put_other (by rintro rfl; exact x.nr hb)]
  exact ho

theorem Stay.two {h h' : H} {ids ids' : List Nat} (s r : Nat) (st : Stay h h' ids ids') : Stay h h' (s :: r :: ids) (s :: r :: ids') :=
  ⟨fun b o hb ho => st.m b o (fun hm => hb (by simp [hm])) ho, fun b e hb he => st.t b e (fun hm => hb (by simp [hm])) he, fun b hb => by
    rcases List.mem_cons.1 hb with rfl | hb
    · exact .inl (by simp)
    · rcases List.mem_cons.1 hb with rfl | hb
      · exact .inl (by simp)
      · rcases st.new b hb with h1 | h1
        · exact .inl (by simp [h1])
        · exact .inr h1⟩
theorem Stay.putIn {h h' : H} {ids ids' : List Nat} (st : Stay h h' ids ids') {r : Nat} (hr : r ∈ ids) (o : MObj) : Stay h (h'.put r o) ids ids' :=
  ⟨fun b x hb hx => by rw [put_other (by rintro rfl; exact hb hr)]; exact st.m b x hb hx, st.t, st.new⟩

theorem c9 {s q r p : Nat} {L : Lg} {D : Dk} {m : SMap × Nat} {ids : List Nat} {h : H} {t : Tag} {cs : List Chg} {Q : QQ} (x : STat h s q r p L D m ids) (hln : D.loose.length ≤ 900000) (hn : cs.length ≤ 1000000)
    (hcs : ∀ c ∈ cs, c.1.length < 1000000 ∧ c.2.1.length < 999999) (hok : SmOK (smChgs m cs))
    (hq : ∀ h' ids', STat h' s q r p (comS L D m cs).1 (comS L D m cs).2.1 (comS L D m cs).2.2.1 ids' → Stay h h' (s :: r :: ids) (s :: r :: ids') → Q (.int .i64 (comS L D m cs).2.2.2) h') : AC mx 9 [.ptr (some (s, 0)), .lst t 3 (cs.map chgAV)] h Q := by
  refine k9 mx _ _ ?_
  unfold sh9
  rw [nilPtr_ptr]
  refine ifB_f rfl ?_
  rw [lenL_lst, List.length_map]
  have hrec := rec_le hcs
  unfold comS at hq
  by_cases he : cs = []
  · subst he
    rw [if_pos rfl] at hq
    exact ifB_t rfl (hq h ids x (.refl _ _))
  rw [if_neg he] at hq
  refine ifB_f (eql_f (by have := List.length_pos_iff.2 he; omega)) ?_
  refine c20 mx x.t3 hn (fun c hc => by have := (hcs c hc).2; omega) (by omega) ?_
  rw [lenL_lst, ofStr_len]
  unfold recOf at hq
  by_cases h8 : 8192 < (textsL (encL cs)).length
  · rw [if_pos h8] at hq
    exact ifB_t (gtr_t (by omega)) (hq h ids x (.refl _ _))
  rw [if_neg h8] at hq
  refine ifB_f (gtr_f (by omega)) ?_
  refine c21 mx x (by omega) hln fun h1 ids1 x1 s1 => ?_
  rw [onC_I]
  by_cases hz : (apdS L D m.1 (textsL (encL cs))).2.2 ≠ 0
  · rw [if_pos hz] at hq
    exact ifB_t (neq_t hz) (hq h1 ids1 x1 (s1.two s r))
  rw [if_neg hz] at hq
  refine ifB_f (neq_f (by omega)) ?_
  refine nn <| ld1_ptr x1.st.hs (c := .map (some r)) rfl ?_
  refine c19 mx x1.t3 x1.st.hr hcs (by omega) ?_
  rw [onC_B]
  exact hq _ ids1 (x1.putMap hok) ((s1.two s r).putIn (by simp) _)

/-- Open: where there is power, and all entries are records. -/
theorem c6 {p : Nat} {D : Dk} {h : H} {ids : List Nat} {css : List (List Chg)} {Q : QQ} (hd : DAt p D h ids) (ht : T3 h) (h3 : 3 ∉ ids) (hn : 4 ≤ D.lasts.length) (hln : D.loose.length ≤ 100000) (hp1 : (openD D).2 = false) (hp2 : (openE D).2 = false)
    (hs : (openS D).1 = css.map recOf) (hcn : css.length ≤ 1000000) (hcl : ∀ cs ∈ css, (recOf cs).length < 4294967281 ∧ ∀ c ∈ cs, c.1.length < 1000000 ∧ c.2.1.length < 999999) (hok : ∀ n, SmOK ((css.take n).foldl smChgs ([], 0)))
    (hq : ∀ h' s q r ids', STat h' s q r p ⟨openG D, (openS D).2, false⟩ (openE D).1 (css.foldl smChgs ([], 0)) ids' → Stay h h' ids (s :: r :: ids') → Q (.tup [.ptr (some (s, 0)), .int .i64 0]) h') : AC mx 6 [.ptr (some (p, 0))] h Q := by
  refine k6 mx _ ?_
  unfold sh6
  refine c18 mx hd hn hln hp1 hp2 fun h1 q ids1 t w1 s1 => ?_
  rw [onT_OOI]
  refine ifB_f (neq_f rfl) ?_
  intro r hfr
  refine oneP_intro rfl (oneP_intro rfl ?_)
  intro s hfs
  have hle1 := le_put (o := .map [] 0) hfr
  have hle2 := le_put (o := .cells 54 [.ptr (some (q, 0)), .map (some r)]) hfs
  have hle := H.le_trans hle1 hle2
  obtain ⟨t3a, t3b⟩ := s1.keep h3 ht
  have hrs : r ≠ s := by rintro rfl; have := hfs.1; rw [put_same] at this; cases this
  have free_ids : ∀ {b : Nat}, h1.free b → b ∉ ids1 := fun hf hm => (wat_obj q p _ _).lie _ _ w1 _ hm hf
  have hfs1 : h1.free s := by
    refine ⟨?_, ?_⟩
    · have := hfs.1; rw [put_other (Ne.symm hrs)] at this; exact this
    · exact hfs.2
  have x0 : STat ((h1.put r (.map [] 0)).put s (.cells 54 [.ptr (some (q, 0)), .map (some r)])) s q r p ⟨openG D, (openS D).2, false⟩ (openE D).1 ([], 0) ids1 := by
    refine ⟨⟨put_same, by rw [put_other hrs]; exact put_same, by simpa using hok 0⟩, (wat_obj q p _ _).le _ _ _ w1 fun b _ => ⟨hle.1 b, hle.2 b⟩, free_ids hfs1, free_ids hfr, t3_le hle t3a, t3b⟩
  have hst0 : Stay h ((h1.put r (.map [] 0)).put s (.cells 54 [.ptr (some (q, 0)), .map (some r)])) ids (s :: r :: ids1) := by
    refine ⟨fun b o hb ho => hle.1 b o (s1.m b o hb ho), fun b e hb he => hle.2 b e (s1.t b e hb he), fun b hb => ?_⟩
    have back : ∀ {b : Nat}, h1.free b → b ∈ ids ∨ h.free b := fun {b} hf => by
      by_cases hi : b ∈ ids
      · exact .inl hi
      · refine .inr ⟨?_, ?_⟩
        · cases hc : h.m b with
          | none => rfl
          | some o => have := s1.m b o hi hc; rw [hf.1] at this; cases this
        · cases hc : h.t b with
          | none => rfl
          | some o => have := s1.t b o hi hc; rw [hf.2] at this; cases this
    rcases List.mem_cons.1 hb with rfl | hb
    · exact back hfs1
    · rcases List.mem_cons.1 hb with rfl | hb
      · exact back hfr
      · exact s1.new b hb
  generalize hH : (h1.put r (.map [] 0)).put s (.cells 54 [.ptr (some (q, 0)), .map (some r)]) = h2 at x0 hst0
  rw [hs, lenL_lst, List.length_map, List.length_map]
  intro I hI
  have main : ∀ n, n ≤ css.length → ∀ h3, STat h3 s q r p ⟨openG D, (openS D).2, false⟩ (openE D).1 ((css.take n).foldl smChgs ([], 0)) ids1 → Stay h h3 ids (s :: r :: ids1) → I (n : Nat) h3 := by
    refine downTo ?_ ?_
    · intro h3 x3 s3
      refine hI _ _ (ifB_f (lss_f (by omega)) ?_)
      rw [List.take_length] at x3
      exact hq _ s q r ids1 x3 s3
    · intro n hn' ih h3 x3 s3
      obtain ⟨k1, k2⟩ := hcl _ (List.getElem_mem hn')
      refine hI _ _ (ifB_t (lss_t (by omega)) ?_)
      refine idxP_lstN (by rw [List.length_map, List.length_map]; exact hn') ?_
      refine ld1_elp (x := bAV (recOf css[n])) (by simp [hn']) rfl ?_
      refine ld1_ptr x3.st.hs (c := .map (some r)) rfl ?_
      refine c19 mx x3.t3 x3.st.hr k2 k1 ?_
      rw [onC_B]
      refine ifB_f rfl ⟨rfl, rfl, rfl, ?_⟩
      rw [ar_add (by omega) (by omega)]
      have e : (css.take (n + 1)).foldl smChgs ([], 0) = smChgs ((css.take n).foldl smChgs ([], 0)) css[n] := by
        rw [List.take_add_one, List.getElem?_eq_getElem hn', List.foldl_append]; rfl
      have x4 := x3.putMap (hok (n + 1))
      rw [e] at x4
      refine ih _ (by rw [e]; exact x4) (s3.trans ⟨fun b o hb ho => ?_, fun b e' hb he => he, fun b hb => .inl hb⟩)
      rw [put_other (by rintro rfl; exact hb (by simp))]
      exact ho
  exact main 0 (by omega) h2 (by simpa using x0) hst0
theorem c6n {h : H} {Q : QQ} (hq : Q (.tup [.ptr none, .int .i64 1]) h) : AC mx 6 [.ptr none] h Q := by
  refine k6 mx _ ?_
  unfold sh6
  refine k18 mx _ ?_
  unfold sh18
  refine c26n mx ?_
  rw [onC_I]
  refine ifB_t rfl ?_
  simp only [onT_OOI]
  exact ifB_t rfl hq
end Go.AM

namespace Go.AM
open Go Go.Proofs
set_option maxRecDepth 20000
variable (mx : Int)

def totOf (cs : List Chg) : Nat := cs.foldl (fun n c => n + c.1.length + c.2.1.length) cs.length
def smallB (cs : List Chg) : Bool := decide (totOf cs < 20000) && decide (cs.length < 60)

theorem lss20 {n : Nat} (h : n < 20000) : cmpI .lss (n : Int) 20000 = true := by simp only [cmpI, decide_eq_true_eq]; omega
theorem lss20f {n : Nat} (h : 20000 ≤ n) : cmpI .lss (n : Int) 20000 = false := by simp only [cmpI, decide_eq_false_iff_not]; omega
theorem tot_mono : ∀ (ds : List Chg) (a : Nat), a ≤ ds.foldl (fun n c => n + c.1.length + c.2.1.length) a
  | [], a => Nat.le_refl _
  | d :: ds, a => Nat.le_trans (by omega) (tot_mono ds (a + d.1.length + d.2.1.length))

theorem c12 {t : Tag} {cs : List Chg} {h : H} {Q : QQ} (hl : cs.length ≤ 1000000000000000) (hc : ∀ c ∈ cs, c.1.length ≤ 1000000000000000 ∧ c.2.1.length ≤ 1000000000000000) (hq : Q (.bool (smallB cs)) h) : AC mx 12 [.lst t 3 (cs.map chgAV)] h Q := by
  refine k12 mx _ ?_
  unfold sh12
  rw [lenL_lst, List.length_map]
  intro J hJ I hI
  have fin : ∀ n : Nat, (n = totOf cs ∨ (20000 ≤ n ∧ n ≤ totOf cs)) → J (n : Int) h := by
    intro n hn
    refine hJ _ _ ?_
    unfold smallB at hq
    cases Nat.lt_or_ge n 20000 with
    | inl h2 =>
      have : n = totOf cs := hn.elim id fun h1 => absurd h2 (Nat.not_lt.2 h1.1)
      rw [this] at h2 ⊢
      rw [lss20 h2, ifB_true]
      have e : cmpI .lss (cs.length : Int) 60 = decide (cs.length < 60) := by simp [cmpI]; omega
      rw [lenL_lst, List.length_map, e]
      rw [decide_eq_true h2, Bool.true_and] at hq
      exact hq
    | inr h2 =>
      rw [lss20f h2, ifB_false]
      have h3 : ¬ totOf cs < 20000 := hn.elim (fun e => by rw [← e]; exact Nat.not_lt.2 h2) fun h1 => Nat.not_lt.2 (Nat.le_trans h2 h1.2)
      rw [decide_eq_false h3, Bool.false_and] at hq
      exact hq
  have main : ∀ n, n ≤ cs.length → (cs.take n).foldl (fun n c => n + c.1.length + c.2.1.length) cs.length ≤ 4000000000000000 → I ((cs.take n).foldl (fun n c => n + c.1.length + c.2.1.length) cs.length : Nat) (n : Nat) h := by
    refine downTo ?_ ?_
    · intro hb
      refine hI _ _ _ ?_
      rw [lenL_lst, List.length_map]
      refine ifB_f (lss_f (by omega)) ?_
      repeat (refine ⟨rfl, ?_⟩)
      refine fin _ (.inl ?_)
      rw [List.take_length]; rfl
    · intro n hn ih hb
      refine hI _ _ _ ?_
      rw [lenL_lst, List.length_map]
      refine ifB_t (lss_t (by omega)) ?_
      have hle : (cs.take n).foldl (fun n c => n + c.1.length + c.2.1.length) cs.length ≤ totOf cs := by
        have := tot_mono (cs.drop n) ((cs.take n).foldl (fun n c => n + c.1.length + c.2.1.length) cs.length)
        rw [← List.foldl_append, List.take_append_drop] at this
        exact this
      have e : (cs.take (n + 1)).foldl (fun n c => n + c.1.length + c.2.1.length) cs.length = (cs.take n).foldl (fun n c => n + c.1.length + c.2.1.length) cs.length + cs[n].1.length + cs[n].2.1.length := foldl_take hn
      rw [e] at ih
      clear e
      generalize (cs.take n).foldl (fun n c => n + c.1.length + c.2.1.length) cs.length = a at *
      cases Nat.lt_or_ge a 20000 with
      | inl h2 =>
        rw [lss20 h2, ifB_true]
        have hel : (cs.map chgAV)[n]? = some (.agg [.str cs[n].1, .str cs[n].2.1, .bool cs[n].2.2]) := by simp [hn, chgAV]
        refine idxP_lstN (by rw [List.length_map]; exact hn) ?_
        refine ld1_elpA hel (c := .str cs[n].1) rfl ?_
        rw [onC_S]
        refine idxP_lstN (by rw [List.length_map]; exact hn) ?_
        refine ld1_elpA hel (c := .str cs[n].2.1) rfl ?_
        rw [onC_S]
        obtain ⟨b1, b2⟩ := hc _ (List.getElem_mem hn)
        repeat (refine ⟨rfl, ?_⟩)
        rw [ar_add (a := (a : Int)) (by omega) (by omega), ar_add (a := (a : Int) + _) (by omega) (by omega), ar_add (a := (n : Int)) (by omega) (by omega)]
        exact ih (by omega)
      | inr h2 =>
        rw [lss20f h2, ifB_false]
        repeat (refine ⟨rfl, ?_⟩)
        exact fin _ (.inr ⟨h2, hle⟩)
  have := main 0 (by omega)
  exact this (by rw [List.take_zero]; exact Nat.le_trans hl (by omega))

abbrev Row := List UInt8 × List UInt8
def rowAV (r : Row) : AV := .agg [.str r.1, .str r.2]
def rowsOf (m : SMap) : List Row := (sortedKeys m).map fun k => (k, smGetB m k)

theorem smFind_mem {k : List UInt8} : ∀ {m : SMap} {i : Nat}, k ∈ m.map (·.1) → (smFind k m i).isSome
  | [], _, h => by simp at h
  | e :: m, i, h => by
    simp only [smFind]
    split
    · rfl
    · rename_i hne
      simp only [List.map_cons, List.mem_cons] at h
      rcases h with rfl | h
      · exact absurd rfl hne
      · exact smFind_mem h

theorem c14 {s q r : Nat} {m : SMap × Nat} {t : Tag} {rows : List Row} {h : H} {Q : QQ} (hs : SAt1 h s q r m) (hq : Q (.bool (decide (rowsOf m.1 = rows))) h) : AC mx 14 [.ptr (some (s, 0)), .lst t 2 (rows.map rowAV)] h Q := by
  refine k14 mx _ _ ?_
  unfold sh14
  refine c10 mx hs fun t1 => ?_
  have hfil : (sortedKeys m.1).filter (fun k => ([] : List UInt8).isPrefixOf k) = sortedKeys m.1 := by rw [List.filter_eq_self]; intro a _; cases a <;> rfl
  rw [hfil, lenL_lst, lenL_lst, List.length_map, List.length_map]
  have hrl : (rowsOf m.1).length = (sortedKeys m.1).length := by unfold rowsOf; rw [List.length_map]
  have hlen : (sortedKeys m.1).length ≤ 100000 := by unfold sortedKeys; rw [(List.mergeSort_perm _ _).length_eq, List.length_map]; exact hs.ok.len
  by_cases hne' : ¬ (sortedKeys m.1).length = rows.length
  · have : decide (rowsOf m.1 = rows) = false := decide_eq_false fun e => hne' (by rw [← hrl, e])
    rw [this] at hq
    exact ifB_t (neq_t (by omega)) hq
  have hne := Decidable.of_not_not hne'
  refine ifB_f (neq_f (by omega)) ?_
  intro I hI
  have bad : ∀ {k : Nat} (hk : k < (sortedKeys m.1).length), (rowsOf m.1)[k]? ≠ rows[k]? → Q (.bool false) h := fun hk hne => by
    have : decide (rowsOf m.1 = rows) = false := decide_eq_false fun e => hne (by rw [e])
    rw [this] at hq; exact hq
  have main : ∀ n, n ≤ (sortedKeys m.1).length → (rowsOf m.1).take n = rows.take n → I (n : Nat) h := by
    refine downTo ?_ ?_
    · intro e
      refine hI _ _ ?_
      rw [lenL_lst, List.length_map]
      refine ifB_f (lss_f (by omega)) ?_
      rw [← hrl, List.take_length] at e
      rw [hrl, hne, List.take_length] at e
      rw [decide_eq_true e] at hq
      exact hq
    · intro n hn ih e
      refine hI _ _ ?_
      rw [lenL_lst, List.length_map]
      refine ifB_t (lss_t (by omega)) ?_
      refine idxP_lstN (by rw [List.length_map]; exact hn) ?_
      refine ld1_elp (x := .str (sortedKeys m.1)[n]) (by simp [hn]) rfl ?_
      rw [onC_S]
      refine c7 mx hs ?_
      rw [onT_SB]
      have hmem : (smGet m.1 (sortedKeys m.1)[n]).isSome = true := by
        have h1 : (sortedKeys m.1)[n] ∈ m.1.map (·.1) := (List.mergeSort_perm _ _).mem_iff.1 (List.getElem_mem hn)
        unfold smGet
        rw [Option.isSome_map]
        exact smFind_mem h1
      have hrn : n < rows.length := by omega
      have hel : (rows.map rowAV)[n]? = some (.agg [.str rows[n].1, .str rows[n].2]) := by simp [hrn, rowAV]
      have hro : (rowsOf m.1)[n]? = some ((sortedKeys m.1)[n], smGetB m.1 (sortedKeys m.1)[n]) := by simp [rowsOf, hn]
      have hrw : rows[n]? = some rows[n] := List.getElem?_eq_getElem hrn
      intro J hJ
      rw [hmem]
      refine ifB_f rfl ?_
      refine idxP_lstN (by rw [List.length_map]; exact hn) ?_
      refine ld1_elp (x := .str (sortedKeys m.1)[n]) (by simp [hn]) rfl ?_
      rw [onC_S]
      refine idxP_lstN (by rw [List.length_map]; exact hrn) ?_
      refine ld1_elpA hel (c := .str rows[n].1) rfl ?_
      rw [onC_S]
      by_cases hk' : ¬ (sortedKeys m.1)[n] = rows[n].1
      · refine ifB_t (by simp [cmpS, hk']) ⟨rfl, rfl, rfl, rfl, hJ _ _ (ifB_t rfl (bad hn ?_))⟩
        rw [hro, hrw]
        intro e; exact hk' (by have := Option.some.inj e; rw [← this])
      have hk := Decidable.of_not_not hk'
      refine ifB_f (by simp [cmpS, hk]) ?_
      refine idxP_lstN (by rw [List.length_map]; exact hrn) ?_
      refine ld1_elpA hel (c := .str rows[n].2) rfl ?_
      rw [onC_S]
      refine ⟨rfl, rfl, rfl, rfl, hJ _ _ ?_⟩
      by_cases hv : smGetB m.1 (sortedKeys m.1)[n] = rows[n].2
      · refine ifB_f (by simp [cmpS, hv]) ⟨rfl, rfl, rfl, ?_⟩
        rw [ar_add (by omega) (by omega)]
        refine ih ?_
        rw [List.take_add_one, List.take_add_one, e, hro, hrw, hv, hk]
      · refine ifB_t (by simp [cmpS, hv]) (bad hn ?_)
        rw [hro, hrw]
        intro e; exact hv (by have := Option.some.inj e; rw [← this])
  exact main 0 (by omega) rfl
end Go.AM

namespace Go.AM
open Go Go.Proofs
set_option maxRecDepth 20000
variable (mx : Int)

/-- A round over one row. -/
def insS (c : Chg) (s : List Row × Bool) (r : Row) : List Row × Bool :=
  let s1 := if !s.2 && decide (c.1 ≤ r.1) then (s.1 ++ [(c.1, c.2.1)], true) else s
  (if r.1 ≠ c.1 then s1.1 ++ [r] else s1.1, s1.2)
def endS (c : Chg) (s : List Row × Bool) : List Row := if !s.2 then s.1 ++ [(c.1, c.2.1)] else s.1
def turn1 (rows : List Row) (c : Chg) : List Row := endS c (rows.foldl (insS c) ([], c.2.2))
def turnR (rows : List Row) (cs : List Chg) : List Row := cs.foldl turn1 rows

theorem insS_len (c : Chg) : ∀ (rows : List Row) (s : List Row × Bool), (rows.foldl (insS c) s).1.length ≤ s.1.length + 2 * rows.length
  | [], s => by simp
  | r :: rows, s => by
    have := insS_len c rows (insS c s r)
    have h2 : (insS c s r).1.length ≤ s.1.length + 2 := by unfold insS; simp only; split <;> split <;> simp
    simp only [List.foldl_cons, List.length_cons]; omega

theorem rowAV_ok {rs : List Row} : okElems tt69 (rs.map rowAV) := by
  intro y hy
  simp only [List.mem_map] at hy
  obtain ⟨r, _, rfl⟩ := hy
  exact ⟨rfl, fun c hc => by simp [rowAV, AV.cells] at hc; rcases hc with rfl | rfl <;> rfl⟩

theorem c15 {t t' : Tag} {rows : List Row} {cs : List Chg} {h : H} {Q : QQ} (hr : rows.length ≤ 1000000) (hb : ∀ n, (turnR rows (cs.take n)).length ≤ 1000000) (hc : cs.length ≤ 1000000)
    (hq : ∀ t, Q (.lst t 2 ((turnR rows cs).map rowAV)) h) : AC mx 15 [.lst t 2 (rows.map rowAV), .lst t' 3 (cs.map chgAV)] h Q := by
  refine ACall.weaken (Q := fun v h' => h.le h' ∧ ∃ t, v = .lst t 2 ((turnR rows cs).map rowAV)) ?_ (by rintro v h' ⟨h1, t, rfl⟩; exact ⟨h, h1, hq t⟩)
  refine k15 mx _ _ ?_
  unfold sh15
  refine ⟨rfl, rd_lst rfl ?_⟩
  refine ap_intro (t := .full) (xs := []) rfl (by decide) rowAV_ok (by rw [List.length_map]; show (0 + _) * 32 ≤ _; omega) trivial fun t0 h0 s0 => ?_
  rw [List.nil_append]
  have hle0 : h.le h0 := ⟨fun b o hb => by rw [s0.m]; exact hb, fun b e hb => s0.ts b e (by simp [tids]) hb⟩
  intro I hI
  have main : ∀ n, n ≤ cs.length → ∀ h1 t1, h.le h1 → I (.lst t1 2 ((turnR rows (cs.take n)).map rowAV)) (n : Nat) h1 := by
    refine downTo ?_ ?_
    · intro h1 t1 hle
      refine hI _ _ _ ?_
      rw [lenL_lst, List.length_map]
      refine ifB_f (lss_f (by omega)) ⟨hle, t1, by rw [List.take_length]⟩
    · intro n hn ih h1 t1 hle
      refine hI _ _ _ ?_
      rw [lenL_lst, List.length_map]
      refine ifB_t (lss_t (by omega)) ?_
      have hel : (cs.map chgAV)[n]? = some (.agg [.str cs[n].1, .str cs[n].2.1, .bool cs[n].2.2]) := by simp [hn, chgAV]
      refine idxP_lstN (xs := cs.map chgAV) (by rw [List.length_map]; exact hn) ?_
      refine ld1_elpA hel (c := .bool cs[n].2.2) rfl ?_
      rw [onC_B]
      have hcur := hb n
      have e : turnR rows (cs.take (n + 1)) = turn1 (turnR rows (cs.take n)) cs[n] := by
        unfold turnR; rw [List.take_add_one, List.getElem?_eq_getElem hn, List.foldl_append]; rfl
      rw [e] at ih
      generalize turnR rows (cs.take n) = cur at ih hcur
      generalize hcc : cs[n] = c at ih hel
      intro I2 hI2
      have inner : ∀ k, k ≤ cur.length → ∀ h2 t2, h.le h2 → TLive h2 t2 → (∀ b ∈ tids t2, h.free b) → I2 (.lst t2 2 (((cur.take k).foldl (insS c) ([], c.2.2)).1.map rowAV)) ((cur.take k).foldl (insS c) ([], c.2.2)).2 (k : Nat) h2 := by
        refine downTo ?_ ?_
        · intro h2 t2 hle2 hlv hfr
          refine hI2 _ _ _ _ ?_
          rw [lenL_lst, List.length_map]
          refine ifB_f (lss_f (by omega)) ?_
          rw [List.take_length]
          have hlen := insS_len c cur ([], c.2.2)
          intro J hJ
          unfold turn1 endS at ih
          generalize cur.foldl (insS c) ([], c.2.2) = st at ih hlen
          simp only [List.length_nil] at hlen
          cases hp : st.2
          · refine ifB_t rfl ?_
            refine idxP_lstN (xs := cs.map chgAV) (by rw [List.length_map]; exact hn) ?_
            rw [ptrP_elp]
            refine idxP_lstN (xs := cs.map chgAV) (by rw [List.length_map]; exact hn) ?_
            rw [hp] at ih
            have go : apP tt69 h2 (.lst t2 2 (st.1.map rowAV)) [.agg [.str c.1, .str c.2.1]] fun v h' => (.lst t' 3 (cs.map chgAV) : AV) = .lst t' 3 (cs.map chgAV) ∧ (.int .i64 (n : Int) : AV) = .int .i64 (n : Int) ∧ J v h' := by
              refine ap_intro (t := t2) rfl (by decide) (rowAV_ok (rs := [(c.1, c.2.1)])) (by rw [List.length_map]; show (_ + 1) * 32 ≤ _; omega) hlv fun t3 h3 s3 => ?_
              refine ⟨rfl, rfl, hJ _ _ ⟨rfl, ?_⟩⟩
              rw [ar_add (by omega) (by omega)]
              have ih := ih h3 t3 (tail_le hle2 hfr s3).1
              simp only [Bool.not_false, if_true, List.map_append, List.map_cons, List.map_nil] at ih
              exact ih
            refine ⟨?_, ?_⟩
            · refine ld1_elpA hel (c := .str c.1) rfl ?_
              rw [onC_S]
              refine ld1_elpA hel (c := .str c.2.1) rfl ?_
              rw [onC_S]
              exact ⟨rfl, go⟩
            · refine ld1_elpA hel (c := .str c.2.1) rfl ?_
              rw [onC_S]
              refine ld1_elpA hel (c := .str c.1) rfl ?_
              rw [onC_S]
              exact ⟨rfl, go⟩
          · refine ifB_f rfl ⟨rfl, rfl, hJ _ _ ⟨rfl, ?_⟩⟩
            rw [ar_add (by omega) (by omega)]
            rw [hp] at ih
            have ih := ih h2 t2 hle2
            simp only [Bool.not_true, Bool.false_eq_true, if_false] at ih
            exact ih
        · intro k hk ih2 h2 t2 hle2 hlv hfr
          have hrl : (cur.map rowAV)[k]? = some (.agg [.str cur[k].1, .str cur[k].2]) := by simp [hk, rowAV]
          have hlen := insS_len c (cur.take k) ([], c.2.2)
          rw [List.length_take] at hlen
          simp only [List.length_nil] at hlen
          refine hI2 _ _ _ _ ?_
          rw [lenL_lst, List.length_map]
          refine ifB_t (lss_t (by omega)) ?_
          have e2 : (cur.take (k + 1)).foldl (insS c) ([], c.2.2) = insS c ((cur.take k).foldl (insS c) ([], c.2.2)) cur[k] := foldl_take hk
          rw [e2] at ih2
          generalize (cur.take k).foldl (insS c) ([], c.2.2) = st at ih2 hlen ⊢
          intro J1 hJ1 J2 hJ2 J3 hJ3
          -- the second half: the row itself
          have half2 : ∀ (acc : List Row) (pl : Bool), acc.length ≤ 2 * cur.length + 1 → 
              (if cur[k].1 ≠ c.1 then acc ++ [cur[k]] else acc, pl) = insS c st cur[k] →
              ∀ h3 t3, h.le h3 → TLive h3 t3 → (∀ b ∈ tids t3, h.free b) → ∀ v1 v2 v3 v4 v5 v6 v7 v8 v9 v10 v11, J2 (.lst t3 2 (acc.map rowAV)) pl v1 v2 v3 v4 v5 v6 v7 v8 v9 v10 v11 h3 := by
            intro acc pl hal hin h3 t3 hle3 hlv3 hfr3 v1 v2 v3 v4 v5 v6 v7 v8 v9 v10 v11
            rw [← hin] at ih2
            refine hJ2 _ _ _ _ _ _ _ _ _ _ _ _ _ _ ?_
            refine idxP_lstN (by rw [List.length_map]; exact hk) ?_
            refine ld1_elpA hrl (c := .str cur[k].1) rfl ?_
            rw [onC_S]
            refine idxP_lstN (xs := cs.map chgAV) (by rw [List.length_map]; exact hn) ?_
            refine ld1_elpA hel (c := .str c.1) rfl ?_
            rw [onC_S]
            by_cases hne : cur[k].1 ≠ c.1
            · refine ifB_t (by simp [cmpS, hne]) ?_
              refine idxP_lstN (by rw [List.length_map]; exact hk) ?_
              refine ldM_elpA (cs := [.str cur[k].1, .str cur[k].2]) hrl (by simp) ?_
              refine ⟨rfl, ?_⟩
              refine ap_intro (t := t3) rfl (by decide) (rowAV_ok (rs := [cur[k]])) (by rw [List.length_map]; show (_ + 1) * 32 ≤ _; omega) hlv3 fun t4 h4 s4 => ?_
              refine ⟨rfl, rfl, rfl, rfl, hJ1 _ _ _ _ _ _ _ _ _ _ _ _ _ _ ⟨rfl, rfl, rfl, ?_⟩⟩
              rw [ar_add (by omega) (by omega)]
              obtain ⟨q1, q2⟩ := tail_le hle3 hfr3 s4
              have ih2 := ih2 h4 t4 q1 s4.live q2
              rw [if_pos hne] at ih2
              simp only [List.map_append, List.map_cons, List.map_nil] at ih2
              exact ih2
            · refine ifB_f (by simp only [cmpS]; simp at hne ⊢; exact hne) ⟨rfl, rfl, rfl, rfl, hJ1 _ _ _ _ _ _ _ _ _ _ _ _ _ _ ⟨rfl, rfl, rfl, ?_⟩⟩
              rw [ar_add (by omega) (by omega)]
              have ih2 := ih2 h3 t3 hle3 hlv3 hfr3
              rw [if_neg hne] at ih2
              exact ih2
          have first : ∀ (bb : Bool), bb = (!st.2 && decide (c.1 ≤ cur[k].1)) → ∀ v1 v2 v3 v4 v5 v6 v7 v8 v9 v10 v11, J3 v1 v2 v3 v4 v5 v6 v7 v8 v9 v10 v11 bb h2 := by
            intro bb hbb v1 v2 v3 v4 v5 v6 v7 v8 v9 v10 v11
            refine hJ3 _ _ _ _ _ _ _ _ _ _ _ _ _ ?_
            cases bb
            · refine ifB_f rfl ⟨rfl, rfl, rfl, rfl, half2 st.1 st.2 (by omega) ?_ h2 t2 hle2 hlv hfr _ _ _ _ _ _ _ _ _ _ _⟩
              unfold insS; rw [← hbb]; rfl
            · refine ifB_t rfl ?_
              refine idxP_lstN (xs := cs.map chgAV) (by rw [List.length_map]; exact hn) ?_
              rw [ptrP_elp]
              refine idxP_lstN (xs := cs.map chgAV) (by rw [List.length_map]; exact hn) ?_
              have go : apP tt69 h2 (.lst t2 2 (st.1.map rowAV)) [.agg [.str c.1, .str c.2.1]] fun v h' => (.lst t' 3 (cs.map chgAV) : AV) = .lst t' 3 (cs.map chgAV) ∧ (.lst t1 2 (cur.map rowAV) : AV) = .lst t1 2 (cur.map rowAV) ∧ (.int .i64 (n : Int) : AV) = .int .i64 (n : Int) ∧ (.int .i64 (k : Int) : AV) = .int .i64 (k : Int) ∧ J2 v true v1 v2 v3 v4 v5 v6 v7 v8 v9 v10 v11 h' := by
                refine ap_intro (t := t2) rfl (by decide) (rowAV_ok (rs := [(c.1, c.2.1)])) (by rw [List.length_map]; show (_ + 1) * 32 ≤ _; omega) hlv fun t3 h3 s3 => ?_
                obtain ⟨q1, q2⟩ := tail_le hle2 hfr s3
                have := half2 (st.1 ++ [(c.1, c.2.1)]) true (by simp; omega) (by unfold insS; rw [← hbb]; rfl) h3 t3 q1 s3.live q2 v1 v2 v3 v4 v5 v6 v7 v8 v9 v10 v11
                rw [List.map_append] at this
                exact ⟨rfl, rfl, rfl, rfl, this⟩
              refine ⟨?_, ?_⟩
              · refine ld1_elpA hel (c := .str c.1) rfl ?_
                rw [onC_S]
                refine ld1_elpA hel (c := .str c.2.1) rfl ?_
                rw [onC_S]
                exact ⟨rfl, go⟩
              · refine ld1_elpA hel (c := .str c.2.1) rfl ?_
                rw [onC_S]
                refine ld1_elpA hel (c := .str c.1) rfl ?_
                rw [onC_S]
                exact ⟨rfl, go⟩
          cases hp : st.2
          · refine ifB_t rfl ?_
            refine idxP_lstN (by rw [List.length_map]; exact hk) ?_
            refine ld1_elpA hrl (c := .str cur[k].1) rfl ?_
            rw [onC_S]
            refine idxP_lstN (xs := cs.map chgAV) (by rw [List.length_map]; exact hn) ?_
            refine ld1_elpA hel (c := .str c.1) rfl ?_
            rw [onC_S]
            have hcmp : cmpS .geq cur[k].1 c.1 = decide (c.1 ≤ cur[k].1) := by
              simp only [cmpS, bytesLess_eq, ← decide_not, List.not_lt]
            rw [hcmp]
            exact ⟨rfl, rfl, rfl, rfl, rfl, rfl, first _ (by rw [hp]; rfl) _ _ _ _ _ _ _ _ _ _ _⟩
          · refine ifB_f rfl ⟨rfl, rfl, rfl, rfl, rfl, rfl, first false (by rw [hp]; rfl) _ _ _ _ _ _ _ _ _ _ _⟩
      exact inner 0 (by omega) h1 .full hle trivial (by simp [tids])
  have := main 0 (by omega) h0 t0 hle0
  exact this
end Go.AM

namespace Go.AM
open Go Go.Proofs
set_option maxRecDepth 100000
variable (mx : Int)

def Dk.dry (D : Dk) : Dk := { D with loose := [], fuse := -1, down := false }

theorem c17e {p : Nat} {D : Dk} {h : H} {ids : List Nat} {keep torn at_ : Int} {Q : QQ} (hd : DAt p D h ids) (hl : D.loose = [])
    (hq : ∀ h' ids', DAt p D.dry h' ids' → Stay h h' ids ids' → Q (.tup []) h') : AC mx 17 [.ptr (some (p, 0)), .int .u64 keep, .int .i64 torn, .int .i64 at_] h Q := by
  refine k17 mx _ _ _ _ ?_
  unfold sh17
  have hok := dat_ok hd
  rw [nilPtr_ptr]
  refine ifB_f rfl ?_
  obtain ⟨bl, t, rfl, hd⟩ := hd
  refine nn <| ld1_ptr hd.hp (c := .lst t 65 (D.loose.map wAV)) rfl ?_
  rw [lenL_lst, List.length_map, hl]
  intro I hI
  refine hI _ _ (ifB_f rfl ?_)
  refine nn <| st_one hd.hp rfl (by show 1 < 4; omega) ?_
  refine nn <| st_one put_same rfl (by show 2 < 4; omega) ?_
  refine nn <| st_one put_same rfl (by show 3 < 4; omega) ?_
  have hnd := hd.nd
  simp only [List.cons_append, List.nil_append, List.nodup_cons, List.mem_cons, not_or] at hnd
  refine hq _ ([p, bl] ++ tids .full) ⟨bl, .full, rfl, ⟨put_same, ?_, trivial, ⟨hok.n, hok.c, by simp [Dk.dry], by simp [Dk.dry], by simp [Dk.dry], by simp [Dk.dry]⟩, ?_⟩⟩ ?_
  · rw [put_other (fun e => hnd.1.1 e.symm), put_other (fun e => hnd.1.1 e.symm), put_other (fun e => hnd.1.1 e.symm), hd.hb]; rfl
  · simp only [tids, List.append_nil, List.nodup_cons, List.mem_singleton, List.not_mem_nil, not_false_eq_true, List.nodup_nil, and_true]; exact hnd.1.1
  · refine ⟨fun c o hc ho => ?_, fun c e hc he => he, fun c hc => ?_⟩
    · have hcp : c ≠ p := by rintro rfl; exact hc (by simp)
      rw [put_other hcp, put_other hcp, put_other hcp]; exact ho
    · simp only [tids, List.append_nil] at hc; exact .inl (by simp only [List.mem_append]; exact .inl hc)

theorem stay_le {h h' : H} {ids : List Nat} (s : Stay h h' [] ids) : h.le h' := ⟨fun b o hb => s.m b o (by simp) hb, fun b e hb => s.t b e (by simp) hb⟩
/-- What only a part of the made things knows of. -/
theorem Stay.more {h h3 h4 : H} {A B B' : List Nat} (s : Stay h h3 [] A) (s4 : Stay h3 h4 B B') (hs : ∀ b ∈ B, b ∈ A) : Stay h h4 [] B' := by
  have hA : ∀ b ∈ A, h.free b := fun b hb => (s.new b hb).elim (fun h => by cases h) id
  refine ⟨fun b o _ ho => s4.m b o (fun hb => ?_) (s.m b o (by simp) ho), fun b e _ he => s4.t b e (fun hb => ?_) (s.t b e (by simp) he), fun b hb => .inr ?_⟩
  · have := (hA b (hs b hb)).1; rw [ho] at this; cases this
  · have := (hA b (hs b hb)).2; rw [he] at this; cases this
  · rcases s4.new b hb with h1 | h1
    · exact hA b (hs b h1)
    · refine ⟨?_, ?_⟩
      · cases hc : h.m b with
        | none => rfl
        | some o => have := s.m b o (by simp) hc; rw [h1.1] at this; cases this
      · cases hc : h.t b with
        | none => rfl
        | some o => have := s.t b o (by simp) hc; rw [h1.2] at this; cases this

theorem k8 {h : H} {Q : QQ} (hx : sh8 (AC mx) h Q) : AC mx 8 [] h Q :=
  @call_of (lc8) (lo8) (jo8) mx 8 Tryz.f8 [] h Q _ Tryz.func8 (by kernel_rfl) (w8 mx (AC mx) h Q) hx

def ansC : Chg := ([97], [49], false)
def ansR : List UInt8 := [49, 58, 97, 50, 58, 43, 49]
theorem ans_rec : recOf [ansC] = ansR := by decide +kernel
noncomputable def ansE : Dk := (openE (newDk 60)).1
noncomputable def ansA : Lg × Dk × Int := appL ⟨1, 31, false⟩ ansE ansR
theorem an1 : (openD (newDk 60)).2 = false := by kernel_rfl
theorem an2 : (openE (newDk 60)).2 = false := by kernel_rfl
theorem an3 : openS (newDk 60) = ([], 31) := by kernel_rfl
theorem an4 : openG (newDk 60) = 1 := by kernel_rfl
theorem an5 : ansA.2.2 = 0 := by kernel_rfl
theorem an6 : ansA.2.1.loose = [] := by kernel_rfl
theorem an6e : ansE.loose = [] := by kernel_rfl
theorem an7 : openS ansA.2.1.dry = ([ansR], 33) := by kernel_rfl
theorem an8 : openG ansA.2.1.dry = 1 := by kernel_rfl
theorem an9 : (openD ansA.2.1.dry).2 = false := by kernel_rfl
theorem an10 : (openE ansA.2.1.dry).2 = false := by kernel_rfl
theorem an11 : ansA.2.1.dry.lasts.length = 60 := by kernel_rfl
theorem an_com : comS ⟨1, 31, false⟩ ansE ([], 0) [ansC] = (ansA.1, ansA.2.1, smChgs ([], 0) [ansC], 0) := by
  have e : fullE (appL ⟨1, 31, false⟩ ansE ansR).2.2 = 0 := by have := an5; unfold ansA at this; rw [this]; rfl
  have ea : apdS ⟨1, 31, false⟩ ansE [] ansR = (ansA.1, ansA.2.1, 0) := by
    unfold apdS
    rw [if_pos (by rw [e]; decide), e]; rfl
  unfold comS
  rw [if_neg (by simp), if_neg (by rw [ans_rec]; decide), ans_rec, ea, if_neg (by simp)]
theorem an_ok : ∀ n, SmOK ((([[ansC]] : List (List Chg)).take n).foldl smChgs ([], 0)) := by
  intro n
  have ok0 : SmOK (([], 0) : SMap × Nat) := ⟨by simp, by simp, by simp, by simp, by simp⟩
  have ok1 : SmOK (smChgs ([], 0) [ansC]) := ⟨by decide, by decide, by decide, by decide, by
    intro e he
    have : e = ([97], [49], 0) := by simpa [smChgs, smChg, ansC, smPut, smFind] using he
    subst this; simp⟩
  cases n with
  | zero => exact ok0
  | succ n => rw [List.take_of_length_le (by simp)]; exact ok1

theorem c8 {h : H} {Q : QQ} (ht : T3 h) (hq : Q (.bool true) h) : AC mx 8 [] h Q := by
  refine ACall.weaken (Q := fun v h' => h.le h' ∧ v = .bool true) ?_ (by rintro v h' ⟨h1, rfl⟩; exact ⟨h, h1, hq⟩)
  refine k8 mx ?_
  unfold sh8
  refine c13 mx (by omega) fun h1 p ids1 hd1 s1 => ?_
  have e60 : newDk (min ((60 : Int)).toNat 1024) = newDk 60 := rfl
  rw [e60] at hd1
  obtain ⟨t1, n1⟩ := s1.keep (by simp) ht
  refine c6 mx (css := []) hd1 t1 n1 (by rw [show (newDk 60).lasts.length = 60 from rfl]; omega) (by rw [show (newDk 60).loose = [] from rfl]; simp) an1 an2 (by rw [an3]; rfl) (by simp) (by simp) (fun n => by simp; exact an_ok 0) fun h2 s q r ids2 x2 s2 => ?_
  rw [onT_OI, an3, an4] at *
  refine ⟨rfl, ?_⟩
  change STat h2 s q r p ⟨1, 31, false⟩ ansE ([], 0) ids2 at x2
  refine c9 mx (cs := [ansC]) x2 (by rw [an6e]; simp) (by simp) (fun c hc => by simp at hc; subst hc; simp [ansC]) (an_ok 1) fun h3 ids3 x3 s3 => ?_
  rw [an_com] at x3 ⊢
  rw [onC_I]
  obtain ⟨js, rfl, w3⟩ := x3.w
  have n3 := x3.n3
  simp only [List.mem_cons, not_or] at n3
  refine c17e mx w3.hd an6 fun h4 js4 hd4 s4 => ?_
  obtain ⟨t4, n4⟩ := s4.keep n3.2 x3.t3
  refine c6 mx (css := [[ansC]]) hd4 t4 n4 (by rw [an11]; omega) (by simp [Dk.dry]) an9 an10 (by rw [an7, List.map_cons, List.map_nil, ans_rec]) (by simp) (fun cs hcs => by simp at hcs; subst hcs; rw [ans_rec]; refine ⟨by simp [ansR], fun c hc => by simp at hc; subst hc; simp [ansC]⟩) an_ok fun h5 s' q' r' ids5 x5 s5 => ?_
  rw [onT_OI]
  have hm : ([[ansC]] : List (List Chg)).foldl smChgs ([], 0) = ([([97], [49], 0)], 1) := by decide
  rw [hm, an7, an8] at x5
  have sall : Stay h h5 [] (s' :: r' :: ids5) := (((s1.trans s2).trans s3).more s4 (by intro b hb; simp [hb])).trans s5
  refine c7 mx x5.st ?_
  have g1 : smGetB [([97], [49], 0)] [97] = [49] := by decide
  have g2 : (smGet [([97], [49], 0)] [97]).isSome = true := by decide
  rw [onT_SB, g1, g2]
  refine ifB_t rfl (ifB_t rfl (ifB_t rfl (ifB_t rfl (ifB_t (by decide) ?_))))
  refine c10 mx x5.st fun t => ?_
  have hk : sortedKeys [(([97] : List UInt8), ([49] : List UInt8), 0)] = [[97]] := by simp [sortedKeys]
  rw [hk, lenL_lst]
  refine ifB_t rfl ?_
  refine c11 mx x5.st x5.w ?_
  rw [onC_I]
  exact ⟨stay_le sall, rfl⟩

theorem c3 {k : List UInt8} {h : H} {Q : QQ} (ht : T3 h) (hq : Q (.bool true) h) : AC mx 3 [.str k] h Q := by
  refine k3 mx _ ?_
  unfold sh3
  refine c6n mx ?_
  rw [onT_OI]
  refine c7n mx ?_
  rw [onT_SB]
  refine c8 mx ht ?_
  rw [onC_B]
  refine ifB_t rfl ?_
  rw [nilPtr_nil]
  refine ifB_t rfl (ifB_t rfl (ifB_t rfl ⟨rfl, ?_⟩))
  refine c9n mx ?_
  rw [onC_I]
  refine ifB_t rfl ?_
  refine c10n mx ?_
  rw [lenL_lst]
  refine ifB_t rfl ?_
  refine c11n mx ?_
  rw [onC_I]
  exact hq
end Go.AM
