/-
  Contracts of row.
-/
import Derived.Test.YtdeabkkgmlimfaaGreatDoorProg
import Derived.Test.YtdeabkkgmlimfaaGreatDoorShelf
import Derived.Shelf.Strings.Builder1
import Derived.BigCall
import Derived.BigGuard
import Derived.WalkSmall
import Derived.Lib.AppendIntMem
import Derived.Test.YtdeabkkgmlimfaaGreatDoorWal
import Derived.Lib.IndexBytes
import Derived.Lib.IndexMore
import Derived.Lib.AtoiErrMem

set_option linter.unusedVariables false
set_option linter.unusedSimpArgs false

namespace Go.Proofs
open Go.Shelf Go.RowKit Go.Lib

theorem tb_size : (Tryz.prog.info? 114).map (·.size) = some 2 := by kernel_rfl
theorem tb_lies : liesAt Tryz.prog Tryz.prog.depth 114 (2 / Tryz.prog.cellsOf 114) 0 114 1 = true := by kernel_rfl
theorem tb_byte : (Tryz.prog.info? 5).map (fun i => (i.zero, i.size, i.bytes)) = some (some (.int .u8 0), 1, 1) := by kernel_rfl

set_option maxHeartbeats 1000000 in
set_option maxRecDepth 100000 in
theorem tb_copy_used (b : Nat) (w : World) (h0 : w.cell? ⟨b, 0, none⟩ = some (.pointer (some ⟨b, 0, none⟩))) :
    Calls Tryz.prog 81 #[.pointer (some ⟨b, 0, none⟩)] w fun e w' => e = .returned (.tuple #[]) ∧ w' = w := by
  obtain ⟨j, hj, _⟩ := Option.map_eq_some_iff.1 tb_size
  go_enter Tryz.func81, Tryz.ntmps81
  go_wp2
  rw [Lib.run_neq_ptr_same w _ Tryz.underlying112 hj]
  go_wp2
  go_end0
  exact ⟨rfl, rfl⟩

set_option maxHeartbeats 1000000 in
set_option maxRecDepth 100000 in
theorem tb_copy_fresh (b : Nat) (w : World) (h0 : w.cell? ⟨b, 0, none⟩ = some (.pointer none)) (hsh : w.shape? b = some (114, 2)) (hfz : w.frozen? ⟨b, 0, none⟩ = false) :
    Calls Tryz.prog 81 #[.pointer (some ⟨b, 0, none⟩)] w fun e w' => e = .returned (.tuple #[]) ∧ w' = w.setCell ⟨b, 0, none⟩ (.pointer (some ⟨b, 0, none⟩)) := by
  obtain ⟨j, hj, hjs⟩ := Option.map_eq_some_iff.1 tb_size
  go_enter Tryz.func81, Tryz.ntmps81
  go_wp2
  rw [Lib.run_to_unsafe w ⟨b, 0, none⟩ Tryz.underlying112 Tryz.underlying153 hj (by rw [hjs]; decide) hsh (Nat.zero_lt_succ 1)]
  simp only [Result.andThen]
  rw [Oper.upon_value]
  go_wp2
  rw [run_callFunc_extern Tryz.func103 (by kernel_rfl) (by kernel_rfl) (by kernel_rfl) (e := Extern.AbiNoEscape.same) (by kernel_rfl)]
  rw [Lib.run_noEscape]
  simp only [Result.andThen]
  rw [Oper.upon_value]
  go_wp2
  rw [Lib.run_from_unsafe w ⟨b, 0, none⟩ Tryz.underlying153 Tryz.underlying112 hj hsh tb_lies]
  simp only [Result.andThen]
  rw [Oper.upon_value]
  go_wp2
  go_end0
  exact ⟨rfl, rfl⟩

theorem tb_copy (B b : Nat) (bs : List Value) (w : World) (h : Lib.IsBuilder 114 5 B b bs w) :
    Calls Tryz.prog 81 #[.pointer (some ⟨b, 0, none⟩)] w fun e w' => e = .returned (.tuple #[]) ∧ (Lib.BuilderAt 114 5 B b (.pointer (some ⟨b, 0, none⟩)) bs w' ∧ Below B w w') := by
  rcases h with h | h
  · refine (tb_copy_fresh b w h.cell0 h.shape h.frozen0).mono ?_
    rintro e w' ⟨rfl, rfl⟩
    exact ⟨rfl, h.used _, (Below.refl B w).setCell (p := ⟨b, 0, none⟩) h.1 _⟩
  · refine (tb_copy_used b w h.cell0).mono ?_
    rintro e w' ⟨rfl, rfl⟩
    exact ⟨rfl, h, Below.refl B _⟩

set_option maxHeartbeats 2000000 in
set_option maxRecDepth 100000 in
theorem tb_byteW (B b : Nat) (bs : List Value) (c : Int) (w : World) (h : Lib.IsBuilder 114 5 B b bs w) (hlen : bs.length + 1 ≤ 140737488355328) (hBw : B ≤ w.heap.size) :
    Calls Tryz.prog 59 #[.pointer (some ⟨b, 0, none⟩), .int .u8 c] w fun e w' => e = .returned .nilIface ∧ (Lib.BuilderAt 114 5 B b (.pointer (some ⟨b, 0, none⟩)) (bs ++ [.int .u8 c]) w' ∧ Below B w w') := by
  obtain ⟨i0, hi, hz0, hz1, hz2⟩ := info_parts tb_byte
  go_enter Tryz.func59, Tryz.ntmps59
  go_wp2_with (go_at_call 81; refine (tb_copy B b bs _ h).mono ?_)
  rintro e w1 ⟨rfl, h1, hb1⟩
  obtain ⟨hB, v, hbk, hown, hne⟩ := h1
  have c0 : w1.cell? ⟨b, 0, none⟩ = some (.pointer (some ⟨b, 0, none⟩)) := by rw [Lib.cell_of_heap hbk]; rfl
  have c1 : w1.cell? ⟨b, 1, none⟩ = some v := by rw [Lib.cell_of_heap hbk]; rfl
  go_wp2_with (at_builtin; refine wpList_append_own _ rfl _ _ 55 rfl B 5 i0 (.int .u8 0) 1 1 Tryz.underlying55 hi hz0 hz1 hz2 rfl (by decide) _ _ _ rfl (hown.alloc _) ⟨w1.heap.size, 0, none⟩ 1 1 [.int .u8 c] rfl rfl ?c1 ?c2 ?c3 ?c4 ?c5 ?_)
  case c1 =>
    intro j u hj
    match j, hj with
    | 0, hj => simp at hj; subst hj; simp [Addr.add]
  case c2 => intro u hu; simp at hu; subst hu; rfl
  case c3 => unfold maxLen; omega
  case c4 => omega
  case c5 => have := hb1.size; simp; omega
  intro v' w2 hown' hgrow _
  have hlt : b < w1.heap.size := by
    rcases Nat.lt_or_ge b w1.heap.size with h' | h'
    · exact h'
    · simp [Array.getElem?_eq_none h'] at hbk
  have hb2 : w2.heap[b]? = some (.cells #[.pointer (some ⟨b, 0, none⟩), v] 114 (0, 0)) := by
    rw [hgrow.block b (by simp; omega) (fun e => hne e.symm), Lib.alloc_old w1 _ b hlt]
    exact hbk
  have d0 : w2.cell? ⟨b, 0, none⟩ = some (.pointer (some ⟨b, 0, none⟩)) := by rw [Lib.cell_of_heap hb2]; rfl
  have d1 : w2.cell? ⟨b, 1, none⟩ = some v := by rw [Lib.cell_of_heap hb2]; rfl
  have f1 : w2.frozen? ⟨b, 1, none⟩ = false := Lib.frozen_of_heap hb2 1
  obtain ⟨g, cap, rfl⟩ : ∃ g cap, v' = .slice (some ⟨g, 0, none⟩) (bs.length + 1) cap := by
    rcases hown'.2 with ⟨_, h0⟩ | ⟨g, cap, cur, hv, _⟩
    · omega
    · exact ⟨g, cap, hv⟩
  go_wp2
  go_ret
  refine ⟨rfl, ?_, ?_⟩
  · exact Lib.BuilderAt.put (T := 114) (e := 5) hB hb2 (bs' := bs ++ [.int .u8 c]) (by simpa using hown') (by decide)
  · exact ((hb1.alloc (by have := hb1.size; omega) _).grown hgrow (by have := hb1.size; simp; omega) (fun k hk => (hown.lt k hk).1)).setCell (p := ⟨b, 1, none⟩) hB _

set_option maxHeartbeats 2000000 in
set_option maxRecDepth 100000 in
theorem tb_strW (B b : Nat) (bs : List Value) (s : ByteArray) (w : World) (h : Lib.IsBuilder 114 5 B b bs w) (hlen : bs.length + s.size ≤ 140737488355328) (hBw : B ≤ w.heap.size) :
    Calls Tryz.prog 58 #[.pointer (some ⟨b, 0, none⟩), .string s] w fun e w' => e = .returned (.tuple #[.int .i64 s.size, .nilIface]) ∧ (Lib.BuilderAt 114 5 B b (.pointer (some ⟨b, 0, none⟩)) (bs ++ Lib.strCells s) w' ∧ Below B w w') := by
  obtain ⟨i0, hi, hz0, hz1, hz2⟩ := info_parts tb_byte
  go_enter Tryz.func58, Tryz.ntmps58
  go_wp2_with (go_at_call 81; refine (tb_copy B b bs _ h).mono ?_)
  rintro e w1 ⟨rfl, h1, hb1⟩
  obtain ⟨hB, v, hbk, hown, hne⟩ := h1
  have c0 : w1.cell? ⟨b, 0, none⟩ = some (.pointer (some ⟨b, 0, none⟩)) := by rw [Lib.cell_of_heap hbk]; rfl
  have c1 : w1.cell? ⟨b, 1, none⟩ = some v := by rw [Lib.cell_of_heap hbk]; rfl
  go_wp2_with (at_builtin; refine Lib.wpList_append_own_string _ rfl _ _ 55 9 rfl B 5 i0 Tryz.underlying55 Tryz.underlying9 hi hz0 hz1 hz2 _ _ _ rfl hown s rfl ?c3 ?c4 ?c5 ?_)
  case c3 => unfold maxLen; omega
  case c4 => omega
  case c5 => have := hb1.size; omega
  intro v' w2 hown' hgrow _
  have hlt : b < w1.heap.size := by
    rcases Nat.lt_or_ge b w1.heap.size with h' | h'
    · exact h'
    · simp [Array.getElem?_eq_none h'] at hbk
  have hb2 : w2.heap[b]? = some (.cells #[.pointer (some ⟨b, 0, none⟩), v] 114 (0, 0)) := by
    rw [hgrow.block b hlt (fun e => hne e.symm)]
    exact hbk
  have d0 : w2.cell? ⟨b, 0, none⟩ = some (.pointer (some ⟨b, 0, none⟩)) := by rw [Lib.cell_of_heap hb2]; rfl
  have d1 : w2.cell? ⟨b, 1, none⟩ = some v := by rw [Lib.cell_of_heap hb2]; rfl
  have f1 : w2.frozen? ⟨b, 1, none⟩ = false := Lib.frozen_of_heap hb2 1
  obtain ⟨ao, n', cap, rfl⟩ : ∃ ao n' cap, v' = .slice ao n' cap := by
    rcases hown'.2 with ⟨hv, _⟩ | ⟨g, cap, cur, hv, _⟩
    · exact ⟨_, _, _, hv⟩
    · exact ⟨_, _, _, hv⟩
  go_wp2
  go_ret2
  refine ⟨rfl, ?_, ?_⟩
  · exact Lib.BuilderAt.put (T := 114) (e := 5) hB hb2 (bs' := bs ++ Lib.strCells s) (by simpa [Lib.strCells_length] using hown') (by decide)
  · exact (hb1.grown hgrow (by have := hb1.size; omega) (fun k hk => (hown.lt k hk).1)).setCell (p := ⟨b, 1, none⟩) hB _
end Go.Proofs

namespace Go.Proofs
open Go.Shelf Go.RowKit Go.Lib Go.Sort

/-- Texts as one. -/
def textsL : List (List UInt8) → List UInt8
  | [] => []
  | s :: r => (Lib.itoa (s.length : Int) ++ [58] ++ s) ++ textsL r
theorem textsL_append (a b : List (List UInt8)) : textsL (a ++ b) = textsL a ++ textsL b := by
  induction a with
  | nil => rfl
  | cons s a ih => simp only [List.cons_append, textsL, ih, List.append_assoc]

theorem tb_hid {p : Prop} (h : p) : Hid p := h

theorem tab_below {B : Nat} {w w' : World} (h : Below B w w') (hB : 3 < B) (ht : Lib.TabIs Tryz.prog w "internal/strconv.uint64pow10" .u64 Lib.pow10Tab) : Lib.TabIs Tryz.prog w' "internal/strconv.uint64pow10" .u64 Lib.pow10Tab :=
  var?_below h (by kernel_rfl) hB ht

theorem tb_grow {B b : Nat} {bs : List Value} {w : World} (h : Lib.IsBuilder 114 5 B b bs w) (hBw : B ≤ w.heap.size) (k : Nat) (os : Array Obj) : Lib.IsBuilder 114 5 B b bs (grow (w.drewN k) os) := by
  have hb := below_grow w.heap.size w (Nat.le_refl _) k os
  have key : ∀ p, Lib.BuilderAt 114 5 B b p bs w → Lib.BuilderAt 114 5 B b p bs (grow (w.drewN k) os) := by
    intro p hp
    have hlt := hp.lt
    obtain ⟨hB, v, hbk, hown, hne⟩ := hp
    exact ⟨hB, v, by rw [hb.block b hlt]; exact hbk, ownsRow_grow hown k os, hne⟩
  rcases h with h | h
  · exact .inl (key _ h)
  · exact .inr (key _ h)

set_option maxHeartbeats 2000000 in
set_option maxRecDepth 100000 in
theorem tb_texts (p : Option Addr) (c : Nat) (xs : List ByteArray) (w : World) (hcells : ∀ (j : Nat) x, xs[j]? = some x → ∃ a, p = some a ∧ w.cell? (a.add j) = some (.string x) ∧ (a.add j).block < w.heap.size)
    (hN : xs.length ≤ 140737488355328) (hB3 : 3 < w.heap.size)
    (hlen : (textsL (xs.map (·.data.toList))).length ≤ 140737488355328) (htab : Lib.TabIs Tryz.prog w "internal/strconv.uint64pow10" .u64 Lib.pow10Tab) :
    Calls Tryz.prog 35 #[.slice p xs.length c] w fun e w' => e = .returned (.string ⟨(textsL (xs.map (·.data.toList))).toArray⟩) ∧ Below w.heap.size w w' := by
  have HC := tb_hid hcells
  have HT := tb_hid htab
  clear hcells htab
  go_enter Tryz.func35, Tryz.ntmps35
  go_wp2_with fail
  have h0 : Lib.IsBuilder 114 5 w.heap.size w.heap.size [] (w.alloc (.cells #[.pointer none, .slice none 0 0] 114)) := Lib.fresh_isBuilder 114 5 w
  have b0 : Below w.heap.size w (w.alloc (.cells #[.pointer none, .slice none 0 0] 114)) := (Below.refl _ w).alloc (Nat.le_refl _) _
  have H0 := tb_hid h0
  have B0 := tb_hid b0
  clear h0 b0
  have hle : ∀ k, (textsL ((xs.map (·.data.toList)).take k)).length ≤ 140737488355328 := fun k => by
    have e : xs.map (·.data.toList) = (xs.map (·.data.toList)).take k ++ (xs.map (·.data.toList)).drop k := (List.take_append_drop k _).symm
    have h1 := hlen
    rw [e, textsL_append, List.length_append] at h1
    omega
  have HLe := tb_hid hle
  clear hle
  go_loopw [8] (fun i wr => ∃ k : Nat, k ≤ xs.length ∧ i = .int .i64 k ∧ Hid (Lib.IsBuilder 114 5 w.heap.size w.heap.size (Lib.byteCells (textsL ((xs.map (·.data.toList)).take k))) wr) ∧ Hid (Below w.heap.size w wr)) (fun i _ => xs.length - (intOf i).toNat)
  case atStart => exact ⟨0, Nat.zero_le _, rfl, H0, B0⟩
  case round =>
    obtain ⟨k, hk', rfl, HB, HW⟩ := hrel
    by_cases hkr : k < xs.length
    · obtain ⟨y, hy⟩ : ∃ y, xs[k]? = some y := ⟨xs[k], List.getElem?_eq_getElem hkr⟩
      obtain ⟨a, rfl, hcell, hblk⟩ := HC.out k y hy
      have hcy : wr.cell? (a.add k) = some (.string y) := by rw [HW.out.cell hblk]; exact hcell
      have hBw : w.heap.size ≤ wr.heap.size := HW.out.size
      have hyn : ((xs.map (·.data.toList)).take (k + 1)) = (xs.map (·.data.toList)).take k ++ [y.data.toList] := by
        rw [List.take_add_one]; simp [hy]
      have hnext : textsL ((xs.map (·.data.toList)).take (k + 1)) = textsL ((xs.map (·.data.toList)).take k) ++ ((Lib.itoa (y.data.toList.length : Int) ++ [58]) ++ y.data.toList) := by
        rw [hyn, textsL_append]; simp [textsL]
      have hl1 := HLe.out (k + 1)
      rw [hnext] at hl1
      simp only [List.length_append, List.length_singleton] at hl1
      have hys : y.data.toList.length = y.size := (Lib.size_eq y).symm
      have Hn := tb_hid hnext
      clear hnext hyn hy hcell
      generalize textsL ((xs.map (·.data.toList)).take k) = T at HB hl1 Hn
      have cI : Calls Tryz.prog 55 #[.int .i64 (y.size : Int)] wr fun e w' => e = .returned (.string ⟨(Lib.itoa (y.size : Int)).toArray⟩) ∧ ∃ k os, w' = grow (wr.drewN k) os :=
        Tryz.strconv_Itoa (y.size : Int) (by omega) (by omega) wr (tab_below HW.out hB3 HT.out)
      rw [hys] at hl1 Hn
      have hit : (Lib.strCells ⟨(Lib.itoa (y.size : Int)).toArray⟩).length = (Lib.itoa (y.size : Int)).length := by rw [Lib.strCells_length]; rfl
      have Hit := tb_hid hit
      clear hit
      go_wp2_with (go_at_call 55; refine cI.mono ?_; rintro e w2 ⟨rfl, kk, os, rfl⟩)
      have hbI : Below wr.heap.size wr (grow (wr.drewN kk) os) := below_grow _ _ (Nat.le_refl _) kk os
      have hWI := HW.out.trans (hbI.mono hBw)
      have HBI := tb_grow HB.out hBw kk os
      have hBw2 : w.heap.size ≤ (grow (wr.drewN kk) os).heap.size := hWI.size
      generalize grow (wr.drewN kk) os = w2 at hWI HBI hBw2 ⊢
      have HWI := tb_hid hWI
      have HBI2 := tb_hid HBI
      clear hWI HBI hbI hcy
      go_wp2_with fail
      refine (tb_strW w.heap.size w.heap.size _ ⟨(Lib.itoa (y.size : Int)).toArray⟩ w2 HBI2.out (by rw [Lib.byteCells_length]; have := Hit.out; rw [Lib.strCells_length] at this; omega) hBw2).mono ?_
      rintro e w3 ⟨rfl, h3, hb3⟩
      have hBw3 : w.heap.size ≤ w3.heap.size := Nat.le_trans hBw2 hb3.size
      have H3 := tb_hid h3
      have Hb3 := tb_hid hb3
      clear h3 hb3
      go_wp2_with fail
      refine (tb_byteW w.heap.size w.heap.size _ 58 w3 (Or.inr H3.out) (by rw [List.length_append, Lib.byteCells_length, Hit.out]; omega) hBw3).mono ?_
      rintro e w4 ⟨rfl, h4, hb4⟩
      have hBw4 : w.heap.size ≤ w4.heap.size := Nat.le_trans hBw3 hb4.size
      have H4 := tb_hid h4
      have Hb4 := tb_hid hb4
      clear h4 hb4
      go_wp2_with fail
      refine (tb_strW w.heap.size w.heap.size _ y w4 (Or.inr H4.out) (by rw [List.length_append, List.length_append, Lib.byteCells_length, Hit.out, List.length_singleton]; omega) hBw4).mono ?_
      rintro e w5 ⟨rfl, h5, hb5⟩
      have e5 : Lib.byteCells T ++ Lib.strCells ⟨(Lib.itoa (y.size : Int)).toArray⟩ ++ [Value.int .u8 58] ++ Lib.strCells y = Lib.byteCells (textsL ((xs.map (·.data.toList)).take (k + 1))) := by
        rw [Hn.out, Lib.strCells_eq, Lib.strCells_eq, Lib.byteCells_append, Lib.byteCells_append, Lib.byteCells_append, List.append_assoc, List.append_assoc, List.append_assoc]
        rfl
      rw [e5] at h5
      have H5 := tb_hid (Or.inr h5 : Lib.IsBuilder 114 5 w.heap.size w.heap.size _ w5)
      have Hb5 := tb_hid (((HWI.out.trans Hb3.out).trans Hb4.out).trans hb5)
      clear h5 hb5 e5
      go_wp2
      exact ⟨⟨k + 1, by omega, by go_num, H5, Hb5⟩, by simp [intOf]; omega⟩
    · have hke : k = xs.length := by omega
      subst hke
      have hfull : (xs.map (·.data.toList)).take xs.length = xs.map (·.data.toList) := List.take_of_length_le (by simp)
      have hB' := HB.out
      rw [hfull] at hB'
      have hBw : w.heap.size ≤ wr.heap.size := HW.out.size
      go_wp2_with fail
      refine (Tryz.Builder_String_any w.heap.size w.heap.size (textsL (xs.map (·.data.toList))) wr hB' hBw).mono ?_
      rintro e w5 ⟨rfl, hb5⟩
      have Hb5 := tb_hid (HW.out.trans hb5)
      clear hb5 hB'
      go_wp2
      go_ret
      exact ⟨rfl, Hb5.out⟩
end Go.Proofs

namespace Go.AM
open Go Go.Proofs
set_option maxRecDepth 20000

theorem digits_in : ∀ (u : Nat), ∀ c ∈ Lib.decDigits u, 48 ≤ c.toNat ∧ c.toNat ≤ 57 := by
  intro u
  induction u using Nat.strongRecOn with
  | ind u ih =>
    intro c hc
    rw [Lib.decDigits] at hc
    split at hc
    · simp only [List.mem_singleton] at hc; subst hc; rw [UInt8.toNat_ofNat']; omega
    · rename_i h
      rcases List.mem_append.1 hc with hc | hc
      · exact ih (u / 10) (by omega) c hc
      · simp only [List.mem_singleton] at hc; subst hc; rw [UInt8.toNat_ofNat']; omega

theorem decFrom_append (a b : List UInt8) : ∀ acc, Lib.decFrom acc (a ++ b) = (Lib.decFrom acc a).bind fun n => Lib.decFrom n b := by
  induction a with
  | nil => intro acc; rfl
  | cons c a ih =>
    intro acc
    simp only [List.cons_append, Lib.decFrom]
    cases Lib.digitVal c with
    | none => rfl
    | some d => exact ih _
theorem digitVal_of {d : Nat} (h : d < 10) : Lib.digitVal (UInt8.ofNat (48 + d)) = some d := by
  unfold Lib.digitVal
  rw [UInt8.toNat_ofNat', if_pos (by omega)]
  congr 1; omega
theorem decFrom_dec : ∀ (u : Nat), Lib.decFrom 0 (Lib.decDigits u) = some u := by
  intro u
  induction u using Nat.strongRecOn with
  | ind u ih =>
    rw [Lib.decDigits]
    split
    · rename_i h
      simp only [Lib.decFrom, digitVal_of h]; congr 1; omega
    · rename_i h
      rw [decFrom_append, ih (u / 10) (by omega)]
      simp only [Option.bind_some, Lib.decFrom, digitVal_of (show u % 10 < 10 by omega)]
      congr 1; omega
theorem dec_ne (u : Nat) : Lib.decDigits u ≠ [] := by
  rw [Lib.decDigits]; split <;> simp
theorem dec_len : ∀ (k u : Nat), u < 10 ^ (k + 1) → (Lib.decDigits u).length ≤ k + 1 := by
  intro k
  induction k with
  | zero => intro u h; rw [Lib.decDigits, dif_pos (by simpa using h)]; simp
  | succ k ih =>
    intro u h
    rw [Lib.decDigits]
    split
    · simp
    · have := ih (u / 10) (by rw [Nat.pow_succ] at h; omega)
      rw [List.length_append, List.length_singleton]; omega

theorem itoa_nat (n : Nat) : Lib.itoa (n : Int) = Lib.decDigits n := by unfold Lib.itoa; rw [if_neg (by omega)]; simp
theorem atoi_itoa (n : Nat) : Lib.atoi (Lib.itoa (n : Int)) = some (n : Int) := by
  rw [itoa_nat]
  have hne := dec_ne n
  have hd := decFrom_dec n
  have hin := digits_in n
  generalize Lib.decDigits n = l at hne hd hin
  cases l with
  | nil => exact absurd rfl hne
  | cons b r =>
    have hb := hin b (by simp)
    have e1 : (b == 45) = false := by rw [beq_eq_false_iff_ne]; rintro rfl; simp at hb
    have e2 : (b == 43) = false := by rw [beq_eq_false_iff_ne]; rintro rfl; simp at hb
    simp only [Lib.atoi, e1, e2, Lib.decNat, List.isEmpty_cons, hd]
    rfl

theorem indexByte_at (a r : List UInt8) (c : UInt8) (h : c ∉ a) : Lib.indexByte (a ++ c :: r) c = (a.length : Int) := by
  induction a with
  | nil => simp [Lib.indexByte]
  | cons b a ih =>
    simp only [List.mem_cons, not_or] at h
    have hb : (b == c) = false := by rw [beq_eq_false_iff_ne]; exact fun e => h.1 e.symm
    simp only [List.cons_append, Lib.indexByte, hb, ih h.2]
    have : ((a.length : Int) == -1) = false := by rw [beq_eq_false_iff_ne]; omega
    simp [this]
theorem cut_at (a r : List UInt8) (h : (58 : UInt8) ∉ a) : Lib.cut (a ++ 58 :: r) [58] = (a, r, true) := by
  unfold Lib.cut
  rw [Lib.index_one, indexByte_at a r 58 h, if_pos (by omega), Int.toNat_natCast]
  simp [List.drop_append]
theorem no_colon (n : Nat) : (58 : UInt8) ∉ Lib.itoa (n : Int) := fun hm => by
  rw [itoa_nat] at hm
  have := digits_in n 58 hm
  simp at this

/-! Calls of the library, over abstract heaps. -/
variable (mx : Int)

theorem inv_below {g : Gh} {h : H} {w w' : World} (hr : Rel g h w) (hb : RowKit.Below w.heap.size w w') : Inv h w g g h w' := by
  have hh : ∀ b, b < w.heap.size → w'.heap[b]? = w.heap[b]? := hb.block
  refine ⟨⟨fun b i v hi => ?_, fun b l hl => Nat.lt_of_lt_of_le (hr.lim b l hl) hb.size, fun b o ho => ?_, fun b e he => ?_⟩, .refl g, hb.size, hb.tape, hb.os, hb.output, fun b hlt hm ht => ⟨hh b hlt, hm, ht, fun _ => rfl⟩⟩
  · have := hr.im b i v hi
    rw [World.cell?, hh b (World.block_lt_of_cell? w _ this)]
    exact this
  · obtain ⟨⟨x, h1, h2⟩, h3, h4⟩ := hr.mm b o ho
    exact ⟨⟨x, by rw [hh b (hr.block ho)]; exact h1, h2⟩, h3, h4⟩
  · obtain ⟨⟨l, vs, T, h1, h2, h3⟩, h4⟩ := hr.tt b e he
    exact ⟨⟨l, vs, T, h1, by rw [hh b (hr.tblock he)]; exact h2, h3⟩, h4⟩

theorem drewN_below (w : World) (n : Nat) : RowKit.Below w.heap.size w (w.drewN n) := ⟨rfl, rfl, rfl, Nat.le_refl _, fun _ _ => rfl⟩

theorem ac_calls {f : FuncId} {args : List AV} {h : H} {Q : QQ} (hent : ∀ args w, (callFunc f args).run Tryz.prog w = .ok (.enter f args) w)
    (H : ∀ g w vs, GlOK (gl0 mx) g → Rel g h w → VRs g args vs → Calls Tryz.prog f vs.toArray w fun e w' => ∃ v, e = .returned v ∧ RowKit.Below w.heap.size w w' ∧ ∃ av, VR g av v ∧ Q av h) : AC mx f args h Q := by
  intro g w vs h1 h2 h3
  unfold CallsX
  rw [hent]
  refine (H g w vs h1 h2 h3).mono ?_
  rintro e w' ⟨v, rfl, hb, av, hv, hq⟩
  exact ⟨g, h, av, hq, inv_below h2 hb, hv⟩

/-- The table of powers lies where it lay. -/
def T3 (h : H) : Prop := h.m 3 = some (.cells 183 (Lib.pow10Tab.map fun z => .int .u64 z))

theorem vrs_ints {g : Gh} {k : IntKind} : ∀ {zs : List Int} {vs : List Value}, VRs g (zs.map fun z => AV.int k z) vs → vs = zs.map fun z => Value.int k z
  | [], _, .nil => rfl
  | z :: zs, _, .cons h hs => by cases h; rw [vrs_ints hs]; rfl
theorem t3_tab {g : Gh} {h : H} {w : World} (hr : Rel g h w) (ht : T3 h) : Lib.TabIs Tryz.prog w "internal/strconv.uint64pow10" .u64 Lib.pow10Tab ∧ 3 < w.heap.size := by
  obtain ⟨⟨x, hx, ho⟩, _, _⟩ := hr.mm 3 _ ht
  cases x <;> simp only [OR] at ho
  rename_i vs e fz
  obtain ⟨rfl, h1, rfl⟩ := ho
  refine ⟨?_, (Array.getElem?_eq_some_iff.1 hx).1⟩
  unfold Lib.TabIs World.var?
  have hg : Tryz.prog.globalNamed "internal/strconv.uint64pow10" = some 3 := by kernel_rfl
  rw [hg]
  simp only [Option.bind_some, hx]
  rw [← vrs_ints h1]

/-- Itoa. -/
theorem c55 {n : Nat} {h : H} {Q : QQ} (ht : T3 h) (hn : n < 9223372036854775807) (hq : Q (.str (Lib.itoa (n : Int))) h) : AC mx 55 [.int .i64 (n : Int)] h Q := by
  refine ac_calls mx (enters_of Tryz.func55 (by kernel_rfl) rfl) fun g w vs h1 h2 h3 => ?_
  obtain ⟨v, rfl, hv⟩ := vrs1 h3
  cases hv
  refine (Tryz.strconv_Itoa (n : Int) (by omega) (by omega) w (t3_tab h2 ht).1).mono ?_
  rintro e w' ⟨rfl, k, os, rfl⟩
  exact ⟨_, rfl, Lib.below_grow _ _ (Nat.le_refl _) k os, _, .str _, hq⟩

/-- Atoi, of what Itoa gave. -/
theorem c54 {n : Nat} {h : H} {Q : QQ} (hn : n < 1000000) (hq : Q (.tup [.int .i64 (n : Int), .nilI]) h) : AC mx 54 [.str (Lib.itoa (n : Int))] h Q := by
  refine ac_calls mx (enters_of Tryz.func54 (by kernel_rfl) rfl) fun g w vs h1 h2 h3 => ?_
  obtain ⟨v, rfl, hv⟩ := vrs1 h3
  cases hv
  have hl := dec_len 5 n (by simpa using hn)
  refine (Tryz.strconv_Atoi ⟨(Lib.itoa (n : Int)).toArray⟩ n (by rw [Lib.size_eq]; simp only [List.toList_toArray]; rw [itoa_nat]; omega) (by simp only [List.toList_toArray]; exact atoi_itoa n) w).mono ?_
  rintro e w' ⟨rfl, t, rfl⟩
  exact ⟨_, rfl, Lib.bytesWorld_below _ _ _, _, .tup _ _ (.cons (.int _ _) (.cons .nilI .nil)), hq⟩

/-- Cut, at a colon. -/
theorem c53 {a r : List UInt8} {h : H} {Q : QQ} (ha : (58 : UInt8) ∉ a) (hl : (a ++ 58 :: r).length < 4294967281) (hq : Q (.tup [.str a, .str r, .bool true]) h) : AC mx 53 [.str (a ++ 58 :: r), .str [58]] h Q := by
  refine ac_calls mx (enters_of Tryz.func53 (by kernel_rfl) rfl) fun g w vs h1 h2 h3 => ?_
  obtain ⟨v, u, rfl, hv, hu⟩ := vrs2 h3
  cases hv; cases hu
  have hm : w.cell? ⟨0, 0, none⟩ = some (.int .i64 mx) := by
    have := h1 0
    change VR g (.ept [.int .i64 mx] 0) (.pointer (some ⟨0, 0, none⟩)) at this
    generalize hp : (Value.pointer (some ⟨0, 0, none⟩)) = pv at this
    cases this with
    | ept _ _ us b o hus hh =>
      simp only [Value.pointer.injEq, Option.some.injEq, Addr.mk.injEq, Nat.add_zero, and_true] at hp
      obtain ⟨rfl, rfl⟩ := hp
      obtain ⟨u, hu, hr⟩ := hus.get (i := 0) (a := .int .i64 mx) rfl
      cases hr
      have := Gh.has_cell h2 hh hu
      simpa [Addr.add] using this
  refine (Tryz.strings_Cut ⟨(a ++ 58 :: r).toArray⟩ ⟨#[58]⟩ mx w (by rw [Lib.size_eq]; simpa using hl) hm).mono ?_
  rintro e w' ⟨rfl, n, rfl⟩
  have hc := cut_at a r ha
  simp only [List.toList_toArray]
  rw [hc]
  exact ⟨_, rfl, drewN_below w n, _, .tup _ _ (.cons (.str _) (.cons (.str _) (.cons (.bool _) .nil))), hq⟩

/-- Texts. -/
theorem c35 {t : Tag} {xs : List (List UInt8)} {h : H} {Q : QQ} (ht : T3 h) (hl : (textsL xs).length ≤ 140737488355328) (hn : xs.length ≤ 140737488355328) (hq : Q (.str (textsL xs)) h) : AC mx 35 [.lst t 1 (xs.map .str)] h Q := by
  refine ac_calls mx (enters_of Tryz.func35 (by kernel_rfl) rfl) fun g w vs h1 h2 h3 => ?_
  obtain ⟨v, rfl, hv⟩ := vrs1 h3
  obtain ⟨t1, t2⟩ := t3_tab h2 ht
  have hmap : (xs.map fun s => (⟨s.toArray⟩ : ByteArray)).map (·.data.toList) = xs := by
    rw [List.map_map]; exact List.map_id' xs
  generalize hxs : xs.map AV.str = ys at hv
  cases hv with
  | lstn =>
    have : xs = [] := by cases xs with
      | nil => rfl
      | cons s r => simp at hxs
    subst this
    refine (tb_texts none 0 [] w (fun j x hj => by simp at hj) (by simp) t2 (by simp [textsL]) t1).mono ?_
    rintro e w' ⟨rfl, hb⟩
    exact ⟨_, rfl, hb, _, .str _, hq⟩
  | lst _ _ _ vs bl o cap hvs hsz hh htg hc =>
    subst hxs
    have hfl : (xs.map AV.str).flatMap AV.cells = xs.map AV.str := by
      clear hq hl hn hvs hsz hc htg hmap h3
      induction xs with
      | nil => rfl
      | cons s r ih => rw [List.map_cons, List.flatMap_cons, ih]; rfl
    rw [hfl] at hvs
    have key := tb_texts (some ⟨bl, o, none⟩) cap (xs.map fun s => (⟨s.toArray⟩ : ByteArray)) w (fun j x hj => ?_) (by simpa using hn) t2 (by rw [hmap]; exact hl) t1
    · rw [hmap, List.length_map] at key
      rw [List.length_map]
      refine key.mono ?_
      rintro e w' ⟨rfl, hb⟩
      exact ⟨_, rfl, hb, _, .str _, hq⟩
    · rw [List.getElem?_map] at hj
      cases hx : xs[j]? with
      | none => rw [hx] at hj; cases hj
      | some s =>
        rw [hx] at hj
        simp only [Option.map_some, Option.some.injEq] at hj
        subst hj
        obtain ⟨u, hu, hr⟩ := hvs.get (i := j) (a := .str s) (by simp [hx])
        cases hr
        have hcell := Gh.has_cell h2 hh hu
        exact ⟨_, rfl, hcell, World.block_lt_of_cell? _ _ hcell⟩
end Go.AM

namespace Go.AM
open Go Go.Proofs
set_option maxRecDepth 20000
variable (mx : Int)

theorem nilIf_nil {K : Bool → Prop} : nilIf .nilI K = K true := rfl
theorem t3_le {h h' : H} (hle : h.le h') (ht : T3 h) : T3 h' := hle.1 _ _ ht
theorem textsL_two : ∀ xs : List (List UInt8), 2 * xs.length ≤ (textsL xs).length
  | [] => by simp [textsL]
  | x :: r => by
    have := textsL_two r
    have h2 : 0 < (Lib.itoa (x.length : Int)).length := by rw [itoa_nat]; exact List.length_pos_iff.2 (dec_ne _)
    simp only [textsL, List.length_append, List.length_cons, List.length_nil]
    omega
theorem textsL_drop (xs : List (List UInt8)) (k : Nat) : (textsL (xs.drop k)).length ≤ (textsL xs).length := by
  have := textsL_append (xs.take k) (xs.drop k)
  rw [List.take_append_drop] at this
  rw [this, List.length_append]; omega

theorem c32 {xs : List (List UInt8)} {h : H} {Q : QQ} (ht : T3 h) (hx : ∀ x ∈ xs, x.length < 1000000) (hl : (textsL xs).length < 4294967281) (hq : ∀ t, Q (.tup [.lst t 1 (xs.map .str), .bool true]) h) : AC mx 32 [.str (textsL xs)] h Q := by
  refine ACall.weaken (Q := fun v h' => h.le h' ∧ ∃ t, v = .tup [.lst t 1 (xs.map .str), .bool true]) ?_ (by rintro v h' ⟨h1, t, rfl⟩; exact ⟨h, h1, hq t⟩)
  refine k32 mx _ ?_
  unfold sh32
  intro I hI
  have h2 := textsL_two xs
  have main : ∀ n, n ≤ xs.length → ∀ h1 t1, h.le h1 → TLive h1 t1 → (∀ b ∈ tids t1, h.free b) → I (.lst t1 1 ((xs.take n).map .str)) (textsL (xs.drop n)) h1 := by
    refine downTo ?_ ?_
    · intro h1 t1 hle _ _
      refine hI _ _ _ (ifB_f ?_ ⟨hle, t1, by rw [List.take_length]⟩)
      rw [List.drop_length]; rfl
    · intro n hn ih h1 t1 hle hlv hfr
      have hd : xs.drop n = xs[n] :: xs.drop (n + 1) := List.drop_eq_getElem_cons hn
      have hxn := hx xs[n] (List.getElem_mem hn)
      have htl : textsL (xs.drop n) = Lib.itoa (xs[n].length : Int) ++ 58 :: (xs[n] ++ textsL (xs.drop (n + 1))) := by
        rw [hd]; simp [textsL]
      have hle2 := textsL_drop xs n
      refine hI _ _ _ (ifB_t ?_ ?_)
      · rw [htl]
        have := dec_ne xs[n].length
        rw [itoa_nat]
        generalize Lib.decDigits xs[n].length = l at this
        cases l with
        | nil => exact absurd rfl this
        | cons => rfl
      rw [htl] at hle2 ⊢
      refine c53 mx (no_colon _) (by omega) ?_
      rw [onT_SSB]
      refine c54 mx hxn ?_
      rw [onT_IO]
      intro J hJ
      refine ifB_f rfl ?_
      rw [nilIf_nil]
      refine ifB_f rfl ?_
      refine ifB_f (lss_f (by omega)) ?_
      refine ifB_f (gtr_f (by rw [List.length_append]; omega)) ?_
      refine c55 mx (t3_le hle ht) (by omega) ?_
      rw [onC_S]
      refine ⟨rfl, rfl, rfl, hJ _ _ (ifB_f (by simp [cmpS]) ?_)⟩
      refine ⟨⟨by omega, by omega, by rw [List.length_append]; omega⟩, rfl, ?_⟩
      refine ap_intro (t := t1) rfl (by decide) ?_ ?_ hlv fun t' h' s => ?_
      · intro y hy; simp at hy; subst hy; exact ⟨rfl, fun c hc => by simp [AV.cells] at hc; subst hc; rfl⟩
      · rw [List.length_map, List.length_take]; show (min n _ + 1) * 16 ≤ _; omega
      · refine ⟨⟨by omega, by rw [List.length_append]; omega, by omega⟩, ?_⟩
        have e1 : (((xs[n] ++ textsL (xs.drop (n + 1))).take ((xs[n].length : Int)).toNat).drop ((0 : Int)).toNat) = xs[n] := by rw [Int.toNat_natCast]; exact List.take_left
        have e2 : (((xs[n] ++ textsL (xs.drop (n + 1))).take (((xs[n] ++ textsL (xs.drop (n + 1))).length : Int)).toNat).drop ((xs[n].length : Int)).toNat) = textsL (xs.drop (n + 1)) := by rw [Int.toNat_natCast, Int.toNat_natCast, List.take_length]; exact List.drop_left
        rw [e1, e2]
        have e : (xs.take (n + 1)).map AV.str = (xs.take n).map AV.str ++ [.str xs[n]] := by
          rw [List.take_add_one, List.getElem?_eq_getElem hn]; simp only [Option.toList_some, List.map_append, List.map_cons, List.map_nil]
        rw [← e]
        refine ih h' t' ⟨fun b o hb => by rw [s.m]; exact hle.1 b o hb, fun b e hb => s.ts b e ?_ (hle.2 b e hb)⟩ s.live fun b hb => ?_
        · intro hx; have := (hfr b hx).2; rw [hb] at this; cases this
        · rcases s.new b hb with h2 | h2
          · exact hfr b h2
          · refine ⟨?_, ?_⟩
            · cases hc : h.m b with
              | none => rfl
              | some o => have := hle.1 b o hc; rw [h2.1] at this; cases this
            · cases hc : h.t b with
              | none => rfl
              | some o => have := hle.2 b o hc; rw [h2.2] at this; cases this
  exact main 0 (by omega) h .full (H.le_refl h) trivial (by simp [tids])
end Go.AM
