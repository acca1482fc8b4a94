/-
  StoreBatches: whatever the input, the law returns true, and the input reads as it did. Conditions: those of the given card.
-/
import Derived.Test.YtdeabkkgmlimfaaGreatDoorPlain
import Derived.Test.YtdeabkkgmlimfaaGreatDoorNone
import Derived.Carry
import Derived.Deep.Strs

set_option linter.unusedVariables false
set_option linter.unusedSimpArgs false

namespace Go.AM
open Go Go.Proofs
set_option maxRecDepth 100000
variable (mx : Int)

theorem sm0_ok : SmOK (([], 0) : SMap × Nat) := an_ok 0
theorem rows0 : rowsOf (([], 0) : SMap × Nat).1 = [] := by simp [rowsOf, sortedKeys]

theorem STat.of_sx {h : H} {s q r p : Nat} {L : Lg} {D : Dk} {m : SMap × Nat} {ids : List Nat} (x : SX s q r p L D m h (s :: r :: ids)) (ht : T3 h) (h3 : 3 ∉ s :: r :: ids) : STat h s q r p L D m ids := by
  obtain ⟨ids', e, x1, x2, x3, x4⟩ := x
  simp only [List.cons.injEq, true_and] at e
  subst e
  exact ⟨x1, x2, x3, x4, ht, fun hm => h3 (by simp [hm])⟩

theorem c4 {t : Tag} {cs : List Chg} {h : H} {Q : QQ} (ht : T3 h) (hl : cs.length ≤ 1000000000000000) (hc : ∀ c ∈ cs, c.1.length ≤ 1000000000000000 ∧ c.2.1.length ≤ 1000000000000000) (hq : Q (.bool true) h) : AC mx 4 [.lst t 3 (cs.map chgAV)] h Q := by
  refine ACall.weaken (Q := fun v h' => h.le h' ∧ v = .bool true) ?_ (by rintro v h' ⟨h1, rfl⟩; exact ⟨h, h1, hq⟩)
  refine k4 mx _ ?_
  unfold sh4
  refine c12 mx hl hc ?_
  rw [onC_B]
  cases hsm : smallB cs
  · refine ifB_t rfl (c8 mx ht ?_)
    rw [onC_B]
    exact ⟨H.le_refl h, rfl⟩
  refine ifB_f rfl ?_
  unfold smallB at hsm
  rw [Bool.and_eq_true, decide_eq_true_eq, decide_eq_true_eq] at hsm
  obtain ⟨hs1, hs2⟩ := hsm
  have hb : ∀ c ∈ cs, c.1.length < 1000000 ∧ c.2.1.length < 999999 := fun c hc => by
    have := tot_le (a := cs.length) hc
    have h20 : (20000 : Nat) < 999999 := by decide
    have h3 := Nat.lt_trans (Nat.lt_of_le_of_lt this hs1) h20
    omega
  clear hs1
  have htake : ∀ n, SmOK (smChgs ([], 0) (cs.take n)) ∧ (smChgs ([], 0) (cs.take n)).1.length ≤ 60 ∧ rowsOf (smChgs ([], 0) (cs.take n)).1 = turnR [] (cs.take n) := fun n => by
    have hl2 : (cs.take n).length ≤ 60 := by rw [List.length_take]; omega
    obtain ⟨a, b, c⟩ := rows_chgs (cs.take n) sm0_ok (by simp; omega) fun c hc => hb c (List.mem_of_mem_take hc)
    simp only [List.length_nil] at b
    rw [rows0] at c
    exact ⟨a, by omega, c⟩
  have hfull := htake cs.length
  rw [List.take_length] at hfull
  obtain ⟨hok, _, hrows⟩ := hfull
  have hturn : ∀ n, (turnR [] (cs.take n)).length ≤ 1000000 := fun n => by
    obtain ⟨_, b, c⟩ := htake n
    rw [← c]
    unfold rowsOf sortedKeys
    rw [List.length_map, (List.mergeSort_perm _ _).length_eq, List.length_map]; omega
  refine c_new mx ht fun h1 p1 s1 q1 r1 ids1 x1 st1 => ?_
  rw [onT_OI]
  refine c_new mx x1.t3 fun h2 p2 s2 q2 r2 ids2 x2 st2 => ?_
  rw [onT_OI]
  intro J hJ
  refine ifB_f (neq_f rfl) ?_
  repeat (refine ⟨rfl, ?_⟩)
  refine hJ _ _ (ifB_f rfl ?_)
  -- both stores, apart
  obtain ⟨sx1, dj1⟩ := st2.other (sx_obj _ _ _ _ _ _ _) x1.sx (by simp)
  have x1b : STat h2 s1 q1 r1 p1 ⟨1, 501, false⟩ batE ([], 0) ids1 := STat.of_sx sx1 x2.t3 x1.n3'
  have base : Stay h h2 [] (s2 :: r2 :: ids2) := ⟨fun b o hb ho => st2.m b o (by simp) (st1.m b o hb ho), fun b e hb he => st2.t b e (by simp) (st1.t b e hb he), fun b hb => .inr (by
    rcases st2.new b hb with h0 | h0
    · cases h0
    · refine ⟨?_, ?_⟩
      · cases hcs : h.m b with
        | none => rfl
        | some o => have := st1.m b o (by simp) hcs; rw [h0.1] at this; cases this
      · cases hcs : h.t b with
        | none => rfl
        | some o => have := st1.t b o (by simp) hcs; rw [h0.2] at this; cases this)⟩
  have hle2 : h.le h2 := stay_le base
  have hfree1 : ∀ b ∈ s1 :: r1 :: ids1, h.free b := fun b hb => (st1.new b hb).elim (fun h0 => by cases h0) id
  have hfree2 : ∀ b ∈ s2 :: r2 :: ids2, h.free b := fun b hb => (base.new b hb).elim (fun h0 => by cases h0) id
  refine c9 mx x1b (by rw [bt5]; omega) (by omega) hb hok fun h3 ids1' x3 st3 => ?_
  have hmap := com_map (L := ⟨1, 501, false⟩) (D := batE) (m := ([], 0)) (cs := cs)
  generalize (comS ⟨1, 501, false⟩ batE ([], 0) cs).1 = L3 at x3
  generalize (comS ⟨1, 501, false⟩ batE ([], 0) cs).2.1 = D3 at x3
  generalize (comS ⟨1, 501, false⟩ batE ([], 0) cs).2.2.1 = m3 at x3 hmap
  generalize (comS ⟨1, 501, false⟩ batE ([], 0) cs).2.2.2 = n3 at hmap ⊢
  rw [onC_I]
  have lekeep : ∀ {ha hb : H} {A B : List Nat}, h.le ha → (∀ b ∈ A, h.free b) → Stay ha hb A B → h.le hb ∧ ∀ b ∈ B, h.free b := fun {ha hb A B} hle hf s => by
    refine ⟨⟨fun b o ho => s.m b o (fun hm => by have := (hf b hm).1; rw [ho] at this; cases this) (hle.1 b o ho), fun b e he => s.t b e (fun hm => by have := (hf b hm).2; rw [he] at this; cases this) (hle.2 b e he)⟩, fun b hb => ?_⟩
    rcases s.new b hb with h0 | h0
    · exact hf b h0
    · refine ⟨?_, ?_⟩
      · cases hcs : h.m b with
        | none => rfl
        | some o => have := hle.1 b o hcs; rw [h0.1] at this; cases this
      · cases hcs : h.t b with
        | none => rfl
        | some o => have := hle.2 b o hcs; rw [h0.2] at this; cases this
  obtain ⟨hle3, hfree1'⟩ := lekeep hle2 hfree1 st3
  obtain ⟨sx2, dj2⟩ := st3.other (sx_obj _ _ _ _ _ _ _) x2.sx (fun b hb hm => dj1 b hm hb)
  have x2b : STat h3 s2 q2 r2 p2 ⟨1, 501, false⟩ batE ([], 0) ids2 := STat.of_sx sx2 x3.t3 x2.n3'
  intro J31 hJ31
  -- the end
  have fin : ∀ h4 L D ids, h.le h4 → STat h4 s2 q2 r2 p2 L D (smChgs ([], 0) cs) ids → SAt1 h4 s1 q1 r1 m3 → J31 h4 ∨ n3 ≠ 0 := fun h4 L D ids hle4 y2 y1 => by
    by_cases hn : n3 = 0
    · left
      refine hJ31 _ (c8 mx y2.t3 ?_)
      rw [onC_B]
      refine ifB_t rfl (ifB_f (by rw [eql_t hn]; rfl) ?_)
      have hm3 := hmap hn
      refine c15 mx (rows := []) (by simp) hturn (by omega) fun t5 => ?_
      refine c14 mx y1 ?_
      rw [onC_B, hm3, decide_eq_true hrows]
      refine ifB_t rfl ?_
      refine c15 mx (rows := []) (by simp) hturn (by omega) fun t6 => ?_
      refine c14 mx y2.st ?_
      rw [onC_B, decide_eq_true hrows]
      exact ⟨hle4, rfl⟩
    · exact .inr hn
  have finN : ∀ h4, h.le h4 → T3 h4 → n3 ≠ 0 → J31 h4 := fun h4 hle4 ht4 hn => by
    refine hJ31 _ (c8 mx ht4 ?_)
    rw [onC_B]
    exact ifB_t rfl (ifB_t (by rw [eql_f hn]; rfl) ⟨hle4, rfl⟩)
  intro I hI
  have main : ∀ n, n ≤ cs.length → ∀ h4 L D ids, h.le h4 → STat h4 s2 q2 r2 p2 L D (smChgs ([], 0) (cs.take n)) ids → D.loose.length ≤ n * 3400 → (∀ b ∈ s2 :: r2 :: ids, h.free b) →
      SX s1 q1 r1 p1 L3 D3 m3 h4 (s1 :: r1 :: ids1') → (∀ b ∈ s1 :: r1 :: ids1', b ∉ s2 :: r2 :: ids) → I (n : Nat) h4 := by
    refine downTo ?_ ?_
    · intro h4 L D ids hle4 y2 hlo hf4 y1 dj
      refine hI _ _ ?_
      rw [lenL_lst, List.length_map]
      refine ifB_f (lss_f (by omega)) ?_
      repeat (refine ⟨rfl, ?_⟩)
      rw [List.take_length] at y2
      obtain ⟨_, e, z1, _⟩ := y1
      rcases fin h4 L D ids hle4 y2 z1 with h0 | h0
      · exact h0
      · exact finN h4 hle4 y2.t3 h0
    · intro n hn ih h4 L D ids hle4 y2 hlo hf4 y1 dj
      refine hI _ _ ?_
      rw [lenL_lst, List.length_map]
      refine ifB_t (lss_t (by omega)) ?_
      by_cases hn3 : n3 = 0
      · refine ifB_t (eql_t hn3) ?_
        refine idxP_lstN (by rw [List.length_map]; exact hn) ?_
        refine ldM_elpA (cs := [.str cs[n].1, .str cs[n].2.1, .bool cs[n].2.2]) (by simp [hn, chgAV]) (by simp) ?_
        refine ⟨rfl, ?_⟩
        have hel := hb _ (List.getElem_mem hn)
        have e1 : smChgs (smChgs ([], 0) (cs.take n)) [cs[n]] = smChgs ([], 0) (cs.take (n + 1)) := by
          unfold smChgs; rw [List.take_add_one, List.getElem?_eq_getElem hn, List.foldl_append]; rfl
        have hwl := wat_len y2.w
        have hlo2 := com_loose (L := L) (D := D) (m := smChgs ([], 0) (cs.take n)) (cs := [cs[n]]) hwl
        refine c9 mx (cs := [cs[n]]) y2 (by omega) (by simp) (fun c hc => by simp at hc; subst hc; exact hel) (by rw [e1]; exact (htake _).1) fun h5 ids5 x5 st5 => ?_
        rw [onC_I]
        have hmap2 := com_map (L := L) (D := D) (m := smChgs ([], 0) (cs.take n)) (cs := [cs[n]])
        rw [e1] at hmap2
        generalize (comS L D (smChgs ([], 0) (cs.take n)) [cs[n]]).1 = L5 at x5
        generalize (comS L D (smChgs ([], 0) (cs.take n)) [cs[n]]).2.1 = D5 at x5 hlo2
        generalize (comS L D (smChgs ([], 0) (cs.take n)) [cs[n]]).2.2.1 = m5 at x5 hmap2
        generalize (comS L D (smChgs ([], 0) (cs.take n)) [cs[n]]).2.2.2 = n5 at hmap2 ⊢
        obtain ⟨hle5, hf5⟩ := lekeep hle4 hf4 st5
        by_cases hn5 : n5 = 0
        · refine ifB_f (neq_f hn5) ?_
          repeat (refine ⟨rfl, ?_⟩)
          rw [ar_add (by omega) (by omega)]
          rw [hmap2 hn5] at x5
          obtain ⟨y1', dj'⟩ := st5.other (sx_obj _ _ _ _ _ _ _) y1 dj
          exact ih h5 L5 D5 ids5 hle5 x5 (by omega) hf5 y1' dj'
        · refine ifB_t (neq_t hn5) (c8 mx x5.t3 ?_)
          rw [onC_B]
          exact ⟨hle5, rfl⟩
      · refine ifB_f (eql_f hn3) ?_
        repeat (refine ⟨rfl, ?_⟩)
        exact finN h4 hle4 y2.t3 hn3
  exact main 0 (by omega) h3 _ _ ids2 hle3 x2b (by rw [bt5]; omega) hfree2 x3.sx fun b hb hm => dj2 b hm hb
end Go.AM

namespace Go.Proofs.YtdeabkkgmlimfaaGreatDoor
open Go.AM Go.Deep
open Go.ChangeShapes Go.WideShapes Go.ChangeAt Go.RowKit Go.Lib
set_option maxRecDepth 20000

theorem laidOut : laidOutB Tryz.prog = true := by kernel_rfl
theorem u36 : Tryz.prog.underlying 36 = some (.slice 31) := by kernel_rfl
theorem c31 : Tryz.prog.cellsOf 31 = 3 := by kernel_rfl
theorem c9' : Tryz.prog.cellsOf 9 = 1 := by kernel_rfl
theorem c4' : Tryz.prog.cellsOf 4 = 1 := by kernel_rfl

theorem weights_all {H : Type} {P : Program} {e : TypeId} {n : Nat} : ∀ {l : List (DataW H)} {d : DataW H}, d ∈ l → n ∈ d.weights P e → n ∈ DataW.weightsAll P e l
  | [], _, h, _ => by cases h
  | x :: l, d, h, hn => by
    simp only [DataW.weightsAll, List.mem_append]
    rcases List.mem_cons.1 h with rfl | h
    · exact .inl hn
    · exact .inr (weights_all h hn)

theorem flat3_len (f : Nat → List Value) (hf : ∀ i, (f i).length = 3) : ∀ n, ((List.range n).flatMap f).length = n * 3
  | 0 => rfl
  | n + 1 => by rw [List.range_succ, List.flatMap_append, List.length_append, flat3_len f hf n]; simp [hf]; omega

/-- The argument: a list of changes. -/
theorem open_chgs {H : Type} {enc : TypeId × Value → H} {W : World} {base : Nat} {v : Value} {d : DataW H} {ps : List MemPlace} (ht3 : W.heap[3]? = some (.cells (Lib.pow10Tab.map fun z => Value.int .u64 z).toArray 183 (0, 0)))
    (hval : Value.okWide Tryz.prog W .any base 36 v) (hsz : ∀ n ∈ d.weights Tryz.prog 36, n ≤ reachBytes) (h : DataW.Trod enc Tryz.prog W 0 (fun _ => true) true 36 v d ps) :
    ∃ cs : List Chg, VR (g3 W) (.lst .any 3 (cs.map chgAV)) v ∧ cs.length ≤ 1000000000000000 ∧ ∀ c ∈ cs, c.1.length ≤ 1000000000000000 ∧ c.2.1.length ≤ 1000000000000000 := by
  obtain ⟨sa, len, cap, rfl⟩ := okWide_slice u36 hval
  obtain ⟨fuel, hf⟩ := h
  have hmax : reachBytes ≤ 1000000000000000 := by decide
  rcases open_slice u36 hf with ⟨hc, _⟩ | ⟨a, len', cap', m, n, D, Pl, hc, _, hl, hm, hmm, hxd, hall⟩
  · have hc : [Value.slice sa len cap] = [Value.slice none 0 0] := hc
    cases hc
    exact ⟨[], .lstn _ _ trivial, by simp, by simp⟩
  · have hc : [Value.slice sa len cap] = [Value.slice (some a) len' cap'] := hc
    cases hc
    simp only [if_true] at hmm
    subst hmm
    have hspot : a.spot = none := by
      simp only [Value.okWide, u36, Cell.okWide, Cell.ok] at hval
      exact hval.2.2.2.1
    obtain ⟨b, off, spot⟩ := a
    simp only at hspot
    subst hspot
    simp only [Prod.mk.injEq] at hxd
    obtain ⟨rfl, _⟩ := hxd
    have hw : ∀ i, i < len → ∀ n ∈ (D i).weights Tryz.prog 31, n ≤ reachBytes := fun i hi n hn => hsz n (by
      simp only [DataW.weights, u36, List.mem_cons, List.mem_append]
      exact .inr (.inl (weights_all (List.mem_map.2 ⟨i, List.mem_range.2 hi, rfl⟩) hn)))
    have hlen0 : len ≤ reachBytes := by
      have := hsz ((((List.range len).map D).length + ((List.range (m - len)).map fun j => D (len + j)).length) * Tryz.prog.bytesOf 31) (by simp only [DataW.weights, u36, List.mem_cons]; exact .inl trivial)
      have hb : Tryz.prog.bytesOf 31 = 40 := by kernel_rfl
      rw [hb] at this
      simp only [List.length_map, List.length_range] at this
      omega
    have each : ∀ i, i < len → ∃ c : Chg, (W.cell? ⟨b, off + i * 3, none⟩ = some (.string ⟨c.1.toArray⟩) ∧ W.cell? ⟨b, off + i * 3 + 1, none⟩ = some (.string ⟨c.2.1.toArray⟩) ∧ W.cell? ⟨b, off + i * 3 + 2, none⟩ = some (.bool c.2.2)) ∧ c.1.length ≤ 1000000000000000 ∧ c.2.1.length ≤ 1000000000000000 := by
      intro i hi
      obtain ⟨cs', h1, h2⟩ := hall i (by omega)
      rw [c31] at h1
      obtain ⟨_, hlen, hcell⟩ := World.cells?_some h1
      obtain ⟨y0, y1, y2, k, hD, _, g0, g1, g2⟩ := trod_struct3 Tryz.underlying31 h2
      match cs', hlen with
      | [v0, v1, v2], _ =>
        simp only [c9', c4', List.drop_zero, List.take_succ_cons, List.take_zero, List.drop_succ_cons] at g0 g1 g2
        obtain ⟨s0, e0, f0, _⟩ := DataW.trod_string Tryz.underlying9 g0
        obtain ⟨s1, e1, f1, _⟩ := DataW.trod_string Tryz.underlying9 g1
        obtain ⟨b2, e2, _⟩ := DataW.trod_bool Tryz.underlying4 g2
        cases e0; cases e1; cases e2; subst f0; subst f1
        simp only [Prod.mk.injEq] at hD
        have hwi := hw i hi
        rw [hD.1] at hwi
        have z0 : s0.data.toList.length ≤ reachBytes := hwi _ (by simp [DataW.weights, Tryz.underlying31, DataW.weightsEach])
        have z1 : s1.data.toList.length ≤ reachBytes := hwi _ (by simp [DataW.weights, Tryz.underlying31, DataW.weightsEach])
        have k0 := hcell 0 (by omega)
        have k1 := hcell 1 (by omega)
        have k2 := hcell 2 (by omega)
        simp only [Go.WideShapes.add_plain, List.getElem?_cons_zero, List.getElem?_cons_succ, Nat.add_zero, Nat.add_assoc] at k0 k1 k2
        refine ⟨(s0.data.toList, s1.data.toList, b2), ⟨k0, by simpa [Nat.add_assoc] using k1, by simpa [Nat.add_assoc] using k2⟩, ?_, ?_⟩
        · exact Nat.le_trans z0 hmax
        · exact Nat.le_trans z1 hmax
    obtain ⟨f, hf2⟩ := choose_lt each
    refine ⟨(List.range len).map f, ?_, by rw [List.length_map, List.length_range]; exact Nat.le_trans hlen0 hmax, fun c hc => ?_⟩
    case refine_2 =>
      obtain ⟨i, hi, rfl⟩ := List.mem_map.1 hc
      exact (hf2 i (List.mem_range.1 hi)).2
    have hL : (((List.range len).map f).map chgAV).length = len := by simp
    have key : VR (g3 W) (.lst .any 3 (((List.range len).map f).map chgAV)) (.slice (some ⟨b, off, none⟩) (((List.range len).map f).map chgAV).length m) := ?_
    · rw [hL] at key; exact key
    refine .lst .any 3 _ ((List.range len).flatMap fun i => [Value.string ⟨(f i).1.toArray⟩, Value.string ⟨(f i).2.1.toArray⟩, Value.bool (f i).2.2]) b off m ?_ ?_ ?_ trivial (by rw [hL]; exact hl)
    · clear hf2 hL hall hf hl hm
      induction List.range len with
      | nil => exact .nil
      | cons i l ih => exact .cons (.str _) (.cons (.str _) (.cons (.bool _) ih))
    · intro x hx
      simp only [List.mem_map] at hx
      obtain ⟨c, _, rfl⟩ := hx
      rfl
    · intro j v hj
      have hb3 : b ≠ 3 ∨ len = 0 := by
        by_cases hz : len = 0
        · exact .inr hz
        · refine .inl ?_
          rintro rfl
          obtain ⟨⟨q0, _, _⟩, _⟩ := hf2 0 (by omega)
          simp only [World.cell?, ht3] at q0
          rw [List.getElem?_toArray, List.getElem?_map] at q0
          cases hz2 : (Lib.pow10Tab)[off + 0 * 3]? with
          | none => rw [hz2] at q0; cases q0
          | some z => rw [hz2] at q0; cases q0
      have hb3 : b ≠ 3 := hb3.elim id fun hz => by subst hz; simp at hj
      show (if b = 3 then none else W.cell? ⟨b, off + j, none⟩) = some v
      rw [if_neg hb3]
      have hget : ∀ (n : Nat) (j : Nat) (v : Value), n ≤ len → ((List.range n).flatMap fun i => [Value.string ⟨(f i).1.toArray⟩, Value.string ⟨(f i).2.1.toArray⟩, Value.bool (f i).2.2])[j]? = some v → W.cell? ⟨b, off + j, none⟩ = some v := by
        intro n
        induction n with
        | zero => intro j v _ hj; simp at hj
        | succ n ih =>
          intro j v hn hj
          rw [List.range_succ, List.flatMap_append, List.getElem?_append] at hj
          have hfl : ((List.range n).flatMap fun i => [Value.string ⟨(f i).1.toArray⟩, Value.string ⟨(f i).2.1.toArray⟩, Value.bool (f i).2.2]).length = n * 3 := flat3_len _ (fun _ => rfl) n
          split at hj
          · exact ih j v (by omega) hj
          · rename_i hge
            rw [hfl] at hj hge
            obtain ⟨q, rfl⟩ := Nat.exists_eq_add_of_le (Nat.not_lt.1 hge)
            obtain ⟨⟨q0, q1, q2⟩, _⟩ := hf2 n (by omega)
            rw [Nat.add_sub_cancel_left] at hj
            simp only [List.flatMap_cons, List.flatMap_nil, List.append_nil] at hj
            match q, hj with
            | 0, hj => simp at hj; subst hj; rw [Nat.add_zero]; exact q0
            | 1, hj => simp at hj; subst hj; rw [← Nat.add_assoc]; exact q1
            | 2, hj => simp at hj; subst hj; rw [← Nat.add_assoc]; exact q2
            | q + 3, hj => simp at hj
      exact hget len j v (Nat.le_refl _) hj

theorem witness_batches (os : Os) {H : Type} (enc : TypeId × Value → H) :
    (OpenSpec.ofChange Rows.storeBatchesSpec).preRow enc Tryz.prog Tryz.f4 Rows.storeBatchesRow.domain false Rows.storeBatchesRow.laid ((laidWorld os).forCall (fun _ _ => 0) ⟨#[], #[.slice none 0 0], []⟩).memory #[.slice none 0 0] := by
  have hw : (DataW.whole enc Tryz.prog ((laidWorld os).forCall (fun _ _ => 0) ⟨#[], #[.slice none 0 0], []⟩).memory Tryz.f4.params.toList Rows.storeBatchesSpec.vars false #[Value.slice none 0 0].toList 8).map (fun x => (x.1, x.2.1)) =
      some ([.nil], []) := by kernel_rfl
  obtain ⟨⟨x1, x2, x3⟩, hx, hx1⟩ := Option.map_eq_some_iff.1 hw
  simp only [Prod.mk.injEq] at hx1
  obtain ⟨rfl, rfl⟩ := hx1
  exact OpenSpec.preRow_of_cond 8 hx (by kernel_rfl) (fun k hk => by cases hk) (by kernel_rfl) (laid_met os _)

theorem batches_lifted (os : Os) (started : os.Started) (H : Type) (enc : TypeId × Value → H) (F : Stop.Interp) :
    ReturnsInHanded {} Tryz.checked os 4 .any ((OpenSpec.ofChange Rows.storeBatchesSpec).preRow enc Tryz.prog Tryz.f4 Rows.storeBatchesRow.domain false Rows.storeBatchesRow.laid) (((OpenSpec.ofChange Rows.storeBatchesSpec).at F).post enc Tryz.prog Tryz.f4 false true false false) := by
  refine returnsInHanded_of_row (C := Tryz.checked) (s := OpenSpec.ofChange Rows.storeBatchesSpec) own started (by kernel_rfl) Tryz.func4
    (witness_row_atRef (enc := enc) (C := Tryz.checked) false (laidWorld os) #[.slice none 0 0] rfl (by kernel_rfl) (by kernel_rfl) (by kernel_rfl) (witness_batches os enc)) ?_
  intro W base args ds gs before hval0 hW _ _ hsz hL hsh _
  have hval : ∀ (j : Nat) t v, Tryz.f4.params[j]? = some t → args[j]? = some v → Value.okWide Tryz.prog W .any base t v := hval0
  have hW' := hW
  obtain ⟨p, q, hA0, hV0, rfl, _, _⟩ := hW
  have hA : DataW.TrodAll enc Tryz.prog W 0 (fun _ => true) true Tryz.f4.params.toList args.toList ds p := hA0
  have hsz' : (DataW.weightsEach Tryz.prog (Tryz.f4.params.toList ++ []) (ds ++ gs)).all (· ≤ reachBytes) = true := hsz
  rw [Tryz.params4] at hA hval hsz'
  obtain ⟨v0, d0, rfl, rfl, h0⟩ := trodAll_one hA
  obtain ⟨rfl, rfl⟩ := trodVars_none hV0
  obtain ⟨⟨m, hm⟩, ht⟩ := first_world hL hsh
  have hwts : ∀ n ∈ d0.weights Tryz.prog 36, n ≤ reachBytes := fun n hn => by
    have := List.all_eq_true.1 hsz' _ (DataW.weights_mem_each (j := 0) (t := 36) (d := d0) rfl rfl n hn)
    simpa using this
  obtain ⟨cs, hv, hl1, hl2⟩ := open_chgs ht (hval 0 36 v0 rfl rfl) hwts h0
  have hlt : ∀ x ∈ p, x.block < W.heap.size := fun x hx => by simpa using hW'.lt x (by simp [hx])
  clear hA0 hV0 hval0
  have run := calls_of_ac (f := 4) (vs := [v0]) (args := [.lst .any 3 (cs.map chgAV)]) (enters_of Tryz.func4 (by kernel_rfl) rfl) hm ht (.cons hv .nil) (c4 m h3_t hl1 hl2 ⟨rfl, rfl⟩)
  refine run.mono ?_
  rintro e W' ⟨rfl, bel⟩
  have e1 : ((OpenSpec.ofChange Rows.storeBatchesSpec).at F).fn H ([d0] ++ []) = { results := [.lit (.bool true)], args := [d0] } := rfl
  refine ⟨_, rfl, _, _, _, [], p, [], hW', ?_, ?_, ?_, bel.frame _, fun h => by cases h⟩
  · rw [e1]; exact trodAll_mk1 (shut_bool Tryz.underlying4 _)
  · rw [e1]; exact trodAll_mk1 (Below.trod laidOut (by kernel_rfl) (of_decide_eq_true (by kernel_rfl)) h0 bel hlt)
  · rw [e1]; rfl

theorem batches_said : Rows.StoreBatchesSaid :=
  OpenClaim.holds_of_cond 4 Tryz.f4 rfl rfl rfl rfl rfl rfl rfl ⟨rfl, rfl, rfl, rfl, rfl⟩ rfl rfl rfl rfl rfl (by kernel_rfl) Tryz.func4 (by kernel_rfl)
    (of_decide_eq_true (by kernel_rfl)) (by unfold Func.isWrapper; first | (rw [if_pos (by decide +kernel)]; kernel_rfl) | (rw [if_neg (by decide +kernel)]; exact ⟨rfl, rfl⟩))
    (fun os started H enc _ F => by rw [OpenClaim.pre_eq_preRow]; exact batches_lifted os started H enc F)

theorem batches_plain (f : FuncId) (fn : Func) (hf : Tryz.pinned.checked.prog.funcNamed "interregnum/interregnumlaw22.StoreBatches" = some f) (hfn : Tryz.pinned.checked.prog.funcs[f]? = some fn) :
    true = Tryz.pinned.checked.prog.looks [] ∧ ∀ (j : Nat) t, fn.params[j]? = some t → Tryz.pinned.checked.prog.wantsStandIn t = false := by
  obtain rfl : f = 4 := Option.some.inj ((show Tryz.prog.funcNamed "interregnum/interregnumlaw22.StoreBatches" = some 4 by kernel_rfl).symm.trans hf) |>.symm
  obtain rfl : fn = Tryz.f4 := (Option.some.inj (Tryz.func4.symm.trans hfn)).symm
  refine ⟨by kernel_rfl, fun j t ht => ?_⟩
  rw [Tryz.params4] at ht
  obtain rfl : t = 36 := by simpa using Array.mem_of_getElem? ht
  exact (show Tryz.prog.wantsStandIn 36 = false by kernel_rfl)

theorem batches_card : Rows.StoreBatchesCardSaid :=
  Claim7.holds_tied_plain_at .later [] _ _ _ _ batches_said (fun _ h => by cases h) (by kernel_rfl) (fun _ h => by cases h) storeBatches_row_tie rfl ⟨rfl, rfl⟩ (by kernel_rfl) rfl batches_plain (by kernel_rfl)
end Go.Proofs.YtdeabkkgmlimfaaGreatDoor
