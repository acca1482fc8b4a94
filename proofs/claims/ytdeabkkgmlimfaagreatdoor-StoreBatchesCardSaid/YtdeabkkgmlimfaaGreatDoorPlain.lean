/-
  The plain law of the store; a store on a new disk.
-/
import Derived.Test.YtdeabkkgmlimfaaGreatDoorStore

set_option linter.unusedVariables false
set_option linter.unusedSimpArgs false

namespace Go.AM
open Go Go.Proofs
set_option maxRecDepth 20000

/-! Look-up in a map. -/
theorem smFind_none {k : List UInt8} : ∀ {m : SMap} {i : Nat}, smFind k m i = none ↔ k ∉ m.map (·.1)
  | [], _ => by simp [smFind]
  | e :: m, i => by
    simp only [smFind, List.map_cons, List.mem_cons, not_or]
    by_cases h : e.1 = k
    · simp [h]
    · rw [if_neg h, smFind_none]
      exact ⟨fun h2 => ⟨fun e' => h e'.symm, h2⟩, fun h2 => h2.2⟩
theorem smGet_iff : ∀ {m : SMap}, (m.map (·.1)).Nodup → ∀ {k v : List UInt8}, smGet m k = some v ↔ ∃ b, (k, v, b) ∈ m
  | [], _, k, v => by simp [smGet, smFind]
  | e :: m, hn, k, v => by
    rw [List.map_cons, List.nodup_cons] at hn
    unfold smGet
    simp only [smFind]
    by_cases h : e.1 = k
    · rw [if_pos h]
      simp only [Option.map_some, Option.some.injEq, List.mem_cons]
      constructor
      · rintro rfl; exact ⟨e.2.2, .inl (by rw [← h])⟩
      · rintro ⟨b, h2 | h2⟩
        · rw [← h2]
        · exact absurd (List.mem_map.2 ⟨_, h2, rfl⟩) (by rw [← h] at *; exact hn.1)
    · rw [if_neg h, smFind_shift k m 0 1, Option.map_map]
      have ih := smGet_iff hn.2 (k := k) (v := v)
      unfold smGet at ih
      have e1 : (Option.map ((fun x => x.2) ∘ fun x => (x.1 + 1, x.2)) (smFind k m 0)) = Option.map (·.2) (smFind k m 0) := rfl
      rw [e1, ih]
      constructor
      · rintro ⟨b, hb⟩; exact ⟨b, List.mem_cons_of_mem _ hb⟩
      · rintro ⟨b, hb⟩
        rcases List.mem_cons.1 hb with rfl | hb
        · exact absurd rfl h
        · exact ⟨b, hb⟩

/-! Sorted rows. -/
def srt (rows : List Row) : Prop := rows.Pairwise fun a b => a.1 < b.1

theorem rowsOf_mem {m : SMap} (hn : (m.map (·.1)).Nodup) {k v : List UInt8} : (k, v) ∈ rowsOf m ↔ ∃ b, (k, v, b) ∈ m := by
  unfold rowsOf sortedKeys
  simp only [List.mem_map, List.mem_mergeSort, Prod.mk.injEq]
  constructor
  · rintro ⟨k', ⟨e, he, rfl⟩, rfl, h2⟩
    have hsome : (smGet m e.1).isSome := by unfold smGet; rw [Option.isSome_map]; exact smFind_mem (List.mem_map.2 ⟨e, he, rfl⟩)
    obtain ⟨v', hv'⟩ := Option.isSome_iff_exists.1 hsome
    have : v' = v := by unfold smGetB at h2; rw [hv'] at h2; exact h2
    subst this
    exact (smGet_iff hn).1 hv'
  · rintro ⟨b, hb⟩
    refine ⟨k, ⟨_, hb, rfl⟩, rfl, ?_⟩
    unfold smGetB
    rw [(smGet_iff hn).2 ⟨b, hb⟩]; rfl
theorem rowsOf_srt {m : SMap} (hn : (m.map (·.1)).Nodup) : srt (rowsOf m) := by
  unfold srt rowsOf
  rw [List.pairwise_map]
  have tr : ∀ a b c : List UInt8, decide (a ≤ b) = true → decide (b ≤ c) = true → decide (a ≤ c) = true := fun a b c h1 h2 => by simp only [decide_eq_true_eq] at *; exact List.le_trans h1 h2
  have to : ∀ a b : List UInt8, (decide (a ≤ b) || decide (b ≤ a)) = true := fun a b => by simp only [Bool.or_eq_true, decide_eq_true_eq]; exact List.le_total a b
  have h1 := List.pairwise_mergeSort (le := fun x y : List UInt8 => decide (x ≤ y)) tr to (m.map (·.1))
  have h2 : (sortedKeys m).Nodup := (List.mergeSort_perm _ _).nodup_iff.2 hn
  refine (List.Pairwise.and h1 h2).imp ?_
  rintro a b ⟨h3, h4⟩
  simp only [decide_eq_true_eq] at h3
  rcases List.le_iff_lt_or_eq.1 h3 with h5 | h5
  · exact h5
  · exact absurd h5 h4

theorem srt_ext {a b : List Row} (ha : srt a) (hb : srt b) (h : ∀ r, r ∈ a ↔ r ∈ b) : a = b := by
  have irr : ∀ x : List UInt8, ¬ x < x := fun x => List.lt_irrefl x
  have nd : ∀ {l : List Row}, srt l → l.Nodup := fun {l} hl => by
    unfold srt at hl
    exact hl.imp fun {x y} hxy (e : x = y) => irr y.1 (by rw [e] at hxy; exact hxy)
  refine List.Perm.eq_of_pairwise (le := fun x y : Row => x.1 < y.1) (fun x y _ _ h1 h2 => absurd (List.lt_trans h1 h2) (irr _)) ha hb ?_
  exact (List.perm_ext_iff_of_nodup (nd ha) (nd hb)).2 h

/-! The laws' turn, over sorted rows. -/
def insR (rows : List Row) (c : Chg) : List Row := rows.filter (fun r => decide (r.1 < c.1)) ++ ((if c.2.2 then [] else [(c.1, c.2.1)]) ++ rows.filter (fun r => decide (c.1 < r.1)))

theorem fold_placed (c : Chg) : ∀ (rows acc : List Row), rows.foldl (insS c) (acc, true) = (acc ++ rows.filter (fun r => decide (r.1 ≠ c.1)), true)
  | [], acc => by simp
  | r :: rows, acc => by
    have : insS c (acc, true) r = ((if r.1 ≠ c.1 then acc ++ [r] else acc), true) := by simp [insS]
    rw [List.foldl_cons, this, fold_placed c rows]
    by_cases h : r.1 = c.1
    · simp [h]
    · simp [h]
theorem fold_open (c : Chg) : ∀ (rows acc : List Row), srt rows → endS c (rows.foldl (insS c) (acc, false)) = acc ++ (rows.filter (fun r => decide (r.1 < c.1)) ++ ((c.1, c.2.1) :: rows.filter (fun r => decide (c.1 < r.1))))
  | [], acc, _ => by simp [endS]
  | r :: rows, acc, hs => by
    have hs' := List.pairwise_cons.1 hs
    rw [List.foldl_cons]
    by_cases h : c.1 ≤ r.1
    · have hall : ∀ x ∈ rows, c.1 < x.1 := fun x hx => List.lt_of_le_of_lt h (hs'.1 x hx)
      have hnl : ∀ x ∈ rows, ¬ x.1 < c.1 := fun x hx h2 => List.lt_irrefl _ (List.lt_trans h2 (hall x hx))
      have e1 : rows.filter (fun r => decide (r.1 ≠ c.1)) = rows := List.filter_eq_self.2 fun x hx => by simp only [decide_eq_true_eq]; intro e; have := hall x hx; rw [e] at this; exact List.lt_irrefl _ this
      have e2 : rows.filter (fun r => decide (r.1 < c.1)) = [] := List.filter_eq_nil_iff.2 fun x hx => by simp only [decide_eq_true_eq]; exact hnl x hx
      have e3 : rows.filter (fun r => decide (c.1 < r.1)) = rows := List.filter_eq_self.2 fun x hx => by simp only [decide_eq_true_eq]; exact hall x hx
      have h2 : ¬ r.1 < c.1 := fun h2 => List.not_lt.2 h h2
      by_cases h3 : r.1 = c.1
      · have : insS c (acc, false) r = (acc ++ [(c.1, c.2.1)], true) := by simp [insS, h3]
        rw [this, fold_placed, e1]
        have h4 : ¬ c.1 < r.1 := by rw [h3]; exact List.lt_irrefl _
        simp [endS, List.filter_cons, h2, h4, e2, e3]
      · have : insS c (acc, false) r = (acc ++ [(c.1, c.2.1)] ++ [r], true) := by simp [insS, h3, h]
        rw [this, fold_placed, e1]
        have h4 : c.1 < r.1 := by
          rcases List.le_iff_lt_or_eq.1 h with h5 | h5
          · exact h5
          · exact absurd h5.symm h3
        simp [endS, List.filter_cons, h2, h4, e2, e3]
    · have h2 : r.1 < c.1 := List.not_le.1 h
      have h3 : r.1 ≠ c.1 := fun e => by rw [e] at h2; exact List.lt_irrefl _ h2
      have h4 : ¬ c.1 < r.1 := fun h4 => List.lt_irrefl _ (List.lt_trans h2 h4)
      have : insS c (acc, false) r = (acc ++ [r], false) := by simp [insS, h3, h]
      rw [this, fold_open c rows _ hs'.2]
      simp [List.filter_cons, h2, h4]
theorem turn1_ins {rows : List Row} (hs : srt rows) (c : Chg) : turn1 rows c = insR rows c := by
  unfold turn1 insR
  cases hg : c.2.2
  · rw [fold_open c rows [] hs]; simp
  · rw [fold_placed]
    have e : rows.filter (fun r => decide (r.1 ≠ c.1)) = rows.filter (fun r => decide (r.1 < c.1)) ++ rows.filter (fun r => decide (c.1 < r.1)) := by
      clear hg
      induction rows with
      | nil => rfl
      | cons r rows ih =>
        have hs' := List.pairwise_cons.1 hs
        by_cases h3 : r.1 = c.1
        · have h2 : ¬ r.1 < c.1 := by rw [h3]; exact List.lt_irrefl _
          have h4 : ¬ c.1 < r.1 := by rw [h3]; exact List.lt_irrefl _
          simp only [List.filter_cons, h3, ne_eq, not_true_eq_false, decide_false, Bool.false_eq_true, if_false]
          rw [← h3]
          simp only [List.lt_irrefl, decide_false, Bool.false_eq_true, if_false]
          rw [h3]; exact ih hs'.2
        · by_cases h2 : r.1 < c.1
          · have h4 : ¬ c.1 < r.1 := fun h4 => List.lt_irrefl _ (List.lt_trans h2 h4)
            simp only [List.filter_cons, ne_eq, h3, not_false_eq_true, decide_true, if_true, h2, h4, decide_false, Bool.false_eq_true, if_false, List.cons_append]
            rw [← ih hs'.2]
          · have h4 : c.1 < r.1 := by
              rcases List.le_iff_lt_or_eq.1 (List.not_lt.1 h2) with h5 | h5
              · exact h5
              · exact absurd h5.symm h3
            have e2 : rows.filter (fun r => decide (r.1 < c.1)) = [] := List.filter_eq_nil_iff.2 fun x hx => by
              simp only [decide_eq_true_eq]; exact fun h5 => List.lt_irrefl _ (List.lt_trans h5 (List.lt_trans h4 (hs'.1 x hx)))
            have ih := ih hs'.2
            rw [e2, List.nil_append] at ih
            simp only [List.filter_cons, ne_eq, h3, not_false_eq_true, decide_true, if_true, h2, h4, decide_false, Bool.false_eq_true, if_false, e2, List.nil_append]
            rw [← ih]
    simp only [endS, Bool.not_true, Bool.false_eq_true, if_false, if_true, List.nil_append]
    exact e
theorem insR_srt {rows : List Row} (hs : srt rows) (c : Chg) : srt (insR rows c) := by
  unfold insR srt
  rw [List.pairwise_append]
  refine ⟨hs.filter _, ?_, fun a ha b hb => ?_⟩
  · rw [List.pairwise_append]
    refine ⟨by split <;> simp, hs.filter _, fun a ha b hb => ?_⟩
    split at ha
    · cases ha
    · simp only [List.mem_singleton] at ha; subst ha
      simpa using (List.mem_filter.1 hb).2
  · have h1 : a.1 < c.1 := by simpa using (List.mem_filter.1 ha).2
    rcases List.mem_append.1 hb with hb | hb
    · split at hb
      · cases hb
      · simp only [List.mem_singleton] at hb; subst hb; exact h1
    · have h2 : c.1 < b.1 := by simpa using (List.mem_filter.1 hb).2
      exact List.lt_trans h1 h2
theorem insR_mem {rows : List Row} {c : Chg} {k v : List UInt8} : (k, v) ∈ insR rows c ↔ ((k, v) ∈ rows ∧ k ≠ c.1) ∨ (c.2.2 = false ∧ k = c.1 ∧ v = c.2.1) := by
  unfold insR
  simp only [List.mem_append, List.mem_filter, decide_eq_true_eq]
  have tri : k < c.1 ∨ k = c.1 ∨ c.1 < k := by
    rcases List.le_total k c.1 with h | h
    · rcases List.le_iff_lt_or_eq.1 h with h | h
      · exact .inl h
      · exact .inr (.inl h)
    · rcases List.le_iff_lt_or_eq.1 h with h | h
      · exact .inr (.inr h)
      · exact .inr (.inl h.symm)
  constructor
  · rintro (⟨h1, h2⟩ | h | ⟨h1, h2⟩)
    · exact .inl ⟨h1, fun e => by rw [e] at h2; exact List.lt_irrefl _ h2⟩
    · cases hg : c.2.2
      · rw [hg] at h; simp only [Bool.false_eq_true, if_false, List.mem_singleton, Prod.mk.injEq] at h; exact .inr ⟨rfl, h.1, h.2⟩
      · rw [hg] at h; simp at h
    · exact .inl ⟨h1, fun e => by rw [e] at h2; exact List.lt_irrefl _ h2⟩
  · rintro (⟨h1, h2⟩ | ⟨h1, rfl, rfl⟩)
    · rcases tri with h | h | h
      · exact .inl ⟨h1, h⟩
      · exact absurd h h2
      · exact .inr (.inr ⟨h1, h⟩)
    · exact .inr (.inl (by rw [h1]; simp))
end Go.AM

namespace Go.AM
open Go Go.Proofs
set_option maxRecDepth 20000

theorem find_split {k : List UInt8} {m : SMap} {x : Nat × List UInt8} (h : smFind k m 0 = some x) : ∃ l a r, m = l ++ a :: r ∧ l.length = x.1 ∧ a.1 = k := by
  obtain ⟨e, _, h2, h3, _⟩ := smFind_spec k m 0 x.1 x.2 h
  rw [Nat.sub_zero] at h2
  obtain ⟨hlt, rfl⟩ := List.getElem?_eq_some_iff.1 h2
  exact ⟨m.take x.1, m[x.1], m.drop (x.1 + 1), by rw [← List.drop_eq_getElem_cons hlt, List.take_append_drop], by rw [List.length_take]; omega, h3⟩

theorem smok_chg {m : SMap × Nat} {c : Chg} (h : SmOK m) (hl : m.1.length < 100000) (hc : c.1.length < 1000000 ∧ c.2.1.length < 999999) :
    SmOK (smChg m c) ∧ (smChg m c).1.length ≤ m.1.length + 1 ∧ ∀ k v, (∃ b, (k, v, b) ∈ (smChg m c).1) ↔ ((∃ b, (k, v, b) ∈ m.1) ∧ k ≠ c.1) ∨ (c.2.2 = false ∧ k = c.1 ∧ v = c.2.1) := by
  obtain ⟨m, clk⟩ := m
  obtain ⟨h1, h2, h3, h4, h5⟩ := h
  simp only at h1 h2 h3 h4 h5 hl
  unfold smChg
  cases hg : c.2.2
  · simp only [Bool.false_eq_true, if_false]
    unfold smPut
    cases hf : smFind c.1 m 0 with
    | none =>
      have hnk := smFind_none.1 hf
      simp only
      refine ⟨⟨by simp; omega, ?_, ?_, ?_, ?_⟩, by simp, ?_⟩
      · intro e he
        simp only [List.mem_append, List.mem_singleton] at he
        rcases he with he | rfl
        · have := h2 e he; simp only; omega
        · simp
      · rw [List.map_append, List.nodup_append]
        refine ⟨h3, by simp, fun a ha b hb => ?_⟩
        simp only [List.map_cons, List.map_nil, List.mem_singleton] at hb
        obtain ⟨e, he, rfl⟩ := List.mem_map.1 ha
        have := h2 e he
        omega
      · rw [List.map_append, List.nodup_append]
        refine ⟨h4, by simp, fun a ha b hb => ?_⟩
        simp only [List.map_cons, List.map_nil, List.mem_singleton] at hb
        subst hb
        rintro rfl
        exact hnk ha
      · intro e he
        simp only [List.mem_append, List.mem_singleton] at he
        rcases he with he | rfl
        · exact h5 e he
        · exact hc
      · intro k v
        simp only [List.mem_append, List.mem_singleton, Prod.mk.injEq]
        constructor
        · rintro ⟨b, hb | ⟨rfl, rfl, _⟩⟩
          · exact .inl ⟨⟨b, hb⟩, fun e => hnk (by rw [← e]; exact List.mem_map.2 ⟨_, hb, rfl⟩)⟩
          · exact .inr ⟨trivial, rfl, rfl⟩
        · rintro (⟨⟨b, hb⟩, _⟩ | ⟨_, rfl, rfl⟩)
          · exact ⟨b, .inl hb⟩
          · exact ⟨clk, .inr ⟨rfl, rfl, rfl⟩⟩
    | some x =>
      obtain ⟨l, a, r, rfl, hx, ha⟩ := find_split hf
      simp only
      have hmod : (l ++ a :: r).modify x.1 (fun e => (c.1, c.2.1, e.2.2)) = l ++ (c.1, c.2.1, a.2.2) :: r := by
        rw [← hx]
        clear hf hx h1 h2 h3 h4 h5 hl
        induction l with
        | nil => rfl
        | cons y l ih => simp only [List.cons_append, List.length_cons, List.modify_succ_cons]; rw [ih]
      rw [hmod]
      have hnotin : ∀ k v b, ((k, v, b) ∈ l ∨ (k, v, b) ∈ r) → k ≠ c.1 := by
        intro k v b hb e
        rw [List.map_append, List.map_cons, List.nodup_append] at h4
        obtain ⟨_, h4b, h4c⟩ := h4
        rw [List.nodup_cons] at h4b
        rcases hb with hb | hb
        · exact h4c k (List.mem_map.2 ⟨_, hb, rfl⟩) a.1 (by simp) (by rw [e, ha])
        · exact h4b.1 (by rw [ha, ← e]; exact List.mem_map.2 ⟨_, hb, rfl⟩)
      refine ⟨⟨by simpa using h1, ?_, ?_, ?_, ?_⟩, by simp, ?_⟩
      · intro e he
        simp only [List.mem_append, List.mem_cons] at he
        rcases he with he | rfl | he
        · exact h2 e (by simp [he])
        · exact h2 a (by simp)
        · exact h2 e (by simp [he])
      · simpa using h3
      · simpa [ha] using h4
      · intro e he
        simp only [List.mem_append, List.mem_cons] at he
        rcases he with he | rfl | he
        · exact h5 e (by simp [he])
        · exact hc
        · exact h5 e (by simp [he])
      · intro k v
        simp only [List.mem_append, List.mem_cons, Prod.mk.injEq]
        constructor
        · rintro ⟨b, hb | ⟨rfl, rfl, _⟩ | hb⟩
          · exact .inl ⟨⟨b, .inl hb⟩, hnotin k v b (.inl hb)⟩
          · exact .inr ⟨trivial, rfl, rfl⟩
          · exact .inl ⟨⟨b, .inr (.inr hb)⟩, hnotin k v b (.inr hb)⟩
        · rintro (⟨⟨b, hb | hb | hb⟩, hne⟩ | ⟨_, rfl, rfl⟩)
          · exact ⟨b, .inl hb⟩
          · exact absurd (show k = c.1 by rw [← ha, ← hb]) hne
          · exact ⟨b, .inr (.inr hb)⟩
          · exact ⟨a.2.2, .inr (.inl ⟨rfl, rfl, rfl⟩)⟩
  · simp only [if_true]
    unfold smDel
    cases hf : smFind c.1 m 0 with
    | none =>
      have hnk := smFind_none.1 hf
      simp only
      refine ⟨⟨h1, h2, h3, h4, h5⟩, by simp, fun k v => ⟨fun ⟨b, hb⟩ => .inl ⟨⟨b, hb⟩, fun e => hnk (by rw [← e]; exact List.mem_map.2 ⟨_, hb, rfl⟩)⟩, ?_⟩⟩
      rintro (⟨h, _⟩ | ⟨h, _⟩)
      · exact h
      · cases h
    | some x =>
      obtain ⟨l, a, r, rfl, hx, ha⟩ := find_split hf
      simp only
      have hmod : (l ++ a :: r).eraseIdx x.1 = l ++ r := by
        rw [← hx]
        clear hf hx h1 h2 h3 h4 h5 hl
        induction l with
        | nil => rfl
        | cons y l ih => simp only [List.cons_append, List.length_cons, List.eraseIdx_cons_succ]; rw [ih]
      rw [hmod]
      have hsub : (l ++ r).Sublist (l ++ a :: r) := List.Sublist.append (List.Sublist.refl l) (List.sublist_cons_self a r)
      have hnotin : ∀ k v b, ((k, v, b) ∈ l ∨ (k, v, b) ∈ r) → k ≠ c.1 := by
        intro k v b hb e
        rw [List.map_append, List.map_cons, List.nodup_append] at h4
        obtain ⟨_, h4b, h4c⟩ := h4
        rw [List.nodup_cons] at h4b
        rcases hb with hb | hb
        · exact h4c k (List.mem_map.2 ⟨_, hb, rfl⟩) a.1 (by simp) (by rw [e, ha])
        · exact h4b.1 (by rw [ha, ← e]; exact List.mem_map.2 ⟨_, hb, rfl⟩)
      refine ⟨⟨by simp at h1 ⊢; omega, fun e he => h2 e (hsub.mem he), (hsub.map _).nodup h3, (hsub.map _).nodup h4, fun e he => h5 e (hsub.mem he)⟩, by simp; omega, fun k v => ?_⟩
      simp only [List.mem_append, List.mem_cons]
      constructor
      · rintro ⟨b, hb | hb⟩
        · exact .inl ⟨⟨b, .inl hb⟩, hnotin k v b (.inl hb)⟩
        · exact .inl ⟨⟨b, .inr (.inr hb)⟩, hnotin k v b (.inr hb)⟩
      · rintro (⟨⟨b, hb | hb | hb⟩, hne⟩ | ⟨h, _⟩)
        · exact ⟨b, .inl hb⟩
        · exact absurd (show k = c.1 by rw [← ha, ← hb]) hne
        · exact ⟨b, .inr hb⟩
        · cases h

/-- One change of the map, one turn of its rows. -/
theorem rows_chg {m : SMap × Nat} {c : Chg} (h : SmOK m) (hl : m.1.length < 100000) (hc : c.1.length < 1000000 ∧ c.2.1.length < 999999) : rowsOf (smChg m c).1 = turn1 (rowsOf m.1) c := by
  obtain ⟨h1, _, h3⟩ := smok_chg h hl hc
  rw [turn1_ins (rowsOf_srt h.keys)]
  refine srt_ext (rowsOf_srt h1.keys) (insR_srt (rowsOf_srt h.keys) c) fun r => ?_
  obtain ⟨k, v⟩ := r
  rw [rowsOf_mem h1.keys, h3, insR_mem, rowsOf_mem h.keys]

theorem rows_chgs : ∀ (cs : List Chg) {m : SMap × Nat}, SmOK m → m.1.length + cs.length ≤ 100000 → (∀ c ∈ cs, c.1.length < 1000000 ∧ c.2.1.length < 999999) →
    SmOK (smChgs m cs) ∧ (smChgs m cs).1.length ≤ m.1.length + cs.length ∧ rowsOf (smChgs m cs).1 = turnR (rowsOf m.1) cs
  | [], m, h, _, _ => ⟨h, by simp [smChgs], rfl⟩
  | c :: cs, m, h, hl, hc => by
    simp only [List.length_cons] at hl
    obtain ⟨h1, h2, _⟩ := smok_chg (c := c) h (by omega) (hc c (by simp))
    have h4 := rows_chg (c := c) h (by omega) (hc c (by simp))
    obtain ⟨k1, k2, k3⟩ := rows_chgs cs h1 (by omega) fun d hd => hc d (by simp [hd])
    refine ⟨k1, ?_, ?_⟩
    · show (smChgs (smChg m c) cs).1.length ≤ _
      simp only [List.length_cons]; omega
    · show rowsOf (smChgs (smChg m c) cs).1 = turnR (turn1 (rowsOf m.1) c) cs
      rw [k3, h4]
end Go.AM

namespace Go.AM
open Go Go.Proofs
set_option maxRecDepth 100000
variable (mx : Int)

theorem com_map {L : Lg} {D : Dk} {m : SMap × Nat} {cs : List Chg} (h : (comS L D m cs).2.2.2 = 0) : (comS L D m cs).2.2.1 = smChgs m cs := by
  unfold comS at h ⊢
  split at h
  · rename_i e; subst e; rfl
  · rename_i e1
    split at h
    · cases h
    · rename_i e2
      rw [if_neg e1, if_neg e2]
      split at h
      · rename_i e3; exact absurd h e3
      · rename_i e3; rw [if_neg e3]
theorem com_loose {L : Lg} {D : Dk} {m : SMap × Nat} {cs : List Chg} (hn : D.lasts.length ≤ 1024) : (comS L D m cs).2.1.loose.length ≤ D.loose.length + 3400 := by
  unfold comS
  split
  · simp
  · split
    · simp
    · rename_i h8
      have a1 := appL_loose (L := L) (D := D) (b := recOf cs) (by omega)
      have a2 := appL_lasts (L := L) (D := D) (b := recOf cs)
      have key : (apdS L D m.1 (recOf cs)).2.1.loose.length ≤ D.loose.length + 3400 := by
        unfold apdS
        split
        · simp only; omega
        · generalize appL L D (recOf cs) = s1 at a1 a2 ⊢
          have b1 := chkL_loose (L := s1.1) (D := s1.2.1) (b := textsL (encL (allOf m.1))) (by omega)
          split
          · simp only; omega
          · generalize chkL s1.1 s1.2.1 (textsL (encL (allOf m.1))) = s2 at b1 ⊢
            have := appL_loose (L := s2.1) (D := s2.2.1) (b := recOf cs) (by omega)
            simp only; omega
      split <;> exact key

/-- A store as an object. -/
def SX (s q r p : Nat) (L : Lg) (D : Dk) (m : SMap × Nat) (h : H) (l : List Nat) : Prop := ∃ ids, l = s :: r :: ids ∧ SAt1 h s q r m ∧ WAt q p L D h ids ∧ s ∉ ids ∧ r ∉ ids
theorem sx_obj (s q r p : Nat) (L : Lg) (D : Dk) (m : SMap × Nat) : Obj' (SX s q r p L D m) where
  le := by
    rintro h h' l ⟨ids, rfl, x1, x2, x3, x4⟩ hle
    exact ⟨ids, rfl, ⟨(hle s (by simp)).1 _ x1.hs, (hle r (by simp)).1 _ x1.hr, x1.ok⟩, (wat_obj q p L D).le _ _ _ x2 fun b hb => hle b (by simp [hb]), x3, x4⟩
  lie := by
    rintro h l ⟨ids, rfl, x1, x2, x3, x4⟩ b hb hf
    rcases List.mem_cons.1 hb with rfl | hb
    · have := x1.hs; rw [hf.1] at this; cases this
    · rcases List.mem_cons.1 hb with rfl | hb
      · have := x1.hr; rw [hf.1] at this; cases this
      · exact (wat_obj q p L D).lie _ _ x2 b hb hf
theorem STat.sx {h : H} {s q r p : Nat} {L : Lg} {D : Dk} {m : SMap × Nat} {ids : List Nat} (x : STat h s q r p L D m ids) : SX s q r p L D m h (s :: r :: ids) := ⟨ids, rfl, x.st, x.w, x.ns, x.nr⟩
theorem STat.n3' {h : H} {s q r p : Nat} {L : Lg} {D : Dk} {m : SMap × Nat} {ids : List Nat} (x : STat h s q r p L D m ids) : 3 ∉ s :: r :: ids := by
  obtain ⟨_, n2, n3⟩ := x.sr
  simp [n2, n3, x.n3]

noncomputable def batE : Dk := (openE (newDk 1000)).1
theorem bt1 : (openD (newDk 1000)).2 = false := by kernel_rfl
theorem bt2 : (openE (newDk 1000)).2 = false := by kernel_rfl
theorem bt3 : openS (newDk 1000) = ([], 501) := by kernel_rfl
theorem bt4 : openG (newDk 1000) = 1 := by kernel_rfl
theorem bt5 : batE.loose.length = 0 := by kernel_rfl
theorem bt6 : batE.lasts.length = 1000 := by kernel_rfl

theorem tot_le : ∀ {cs : List Chg} {a : Nat} {c : Chg}, c ∈ cs → c.1.length + c.2.1.length ≤ cs.foldl (fun n c => n + c.1.length + c.2.1.length) a
  | [], _, _, h => by cases h
  | d :: cs, a, c, h => by
    rw [List.foldl_cons]
    rcases List.mem_cons.1 h with rfl | h
    · have := tot_mono cs (a + c.1.length + c.2.1.length); omega
    · exact tot_le h

/-- A new store on a new disk of 1000 sectors. -/
theorem c_new {h : H} {R : AV → H → Prop} (ht : T3 h)
    (hq : ∀ h' p s q r ids, STat h' s q r p ⟨1, 501, false⟩ batE ([], 0) ids → Stay h h' [] (s :: r :: ids) → R (.tup [.ptr (some (s, 0)), .int .i64 0]) h') :
    AC mx 13 [.int .i64 1000] h fun r10 h11 => AC mx 6 [r10] h11 R := by
  refine c13 mx (by omega) fun h1 p ids1 hd1 s1 => ?_
  have e60 : newDk (min ((1000 : Int)).toNat 1024) = newDk 1000 := rfl
  rw [e60] at hd1
  obtain ⟨t1, n1⟩ := s1.keep (by simp) ht
  refine c6 mx (css := []) hd1 t1 n1 (by rw [show (newDk 1000).lasts.length = 1000 by simp [newDk]]; omega) (by rw [show (newDk 1000).loose = [] from rfl]; simp) bt1 bt2 (by rw [bt3]; rfl) (by simp) (by simp) (fun n => by simp; exact an_ok 0) fun h2 s q r ids2 x2 s2 => ?_
  rw [bt3, bt4] at x2
  exact hq h2 p s q r ids2 x2 (s1.trans s2)
end Go.AM
