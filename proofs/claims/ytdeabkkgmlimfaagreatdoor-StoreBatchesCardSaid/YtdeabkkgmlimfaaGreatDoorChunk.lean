/-
  The iterator of slices.Chunk; the beginnings of strings.
-/
import Derived.RangeFuncNested
import Derived.RangeFuncBound
import Derived.RangeFuncCalls
import Derived.RangeFuncLeaves
import Derived.Shelf.Abstract
import Derived.Shelf.RegionOpen
import Derived.WalkKit
import Derived.OwnWalkIn
import Derived.TacticsInMore
import Derived.LoopNIn
import Derived.LoopIn
import Derived.Test.YtdeabkkgmlimfaaGreatDoorShelf
import Derived.Lib.Strings
import Derived.Lib.Slices
import Derived.Laws.Strings3

set_option linter.unusedVariables false
set_option linter.unusedSimpArgs false

namespace Go.Proofs
open Go.RowKit Go.Shelf
attribute [local go_sem] Oper.semAt_some

/-- Whatever lies below n₀ lies as it lay, but block r. -/
structure KBut (r n₀ : Nat) (W W' : World) : Prop where
  os : W'.os = W.os
  tape : W'.tape = W.tape
  output : W'.output = W.output
  size : W.heap.size ≤ W'.heap.size
  block : ∀ k, k < n₀ → k ≠ r → W'.heap[k]? = W.heap[k]?

theorem KBut.refl (r n₀ : Nat) (W : World) : KBut r n₀ W W := ⟨rfl, rfl, rfl, Nat.le_refl _, fun _ _ _ => rfl⟩
theorem KBut.trans {r n₀ : Nat} {A B C : World} (h : KBut r n₀ A B) (k : KBut r n₀ B C) : KBut r n₀ A C :=
  ⟨k.os.trans h.os, k.tape.trans h.tape, k.output.trans h.output, Nat.le_trans h.size k.size, fun i hi hr => (k.block i hi hr).trans (h.block i hi hr)⟩
theorem KBut.of_below {r n₀ : Nat} {A B : World} (h : Below n₀ A B) : KBut r n₀ A B := ⟨h.os, h.tape, h.output, h.size, fun k hk _ => h.block k hk⟩
theorem KBut.cell {r n₀ : Nat} {A B : World} (h : KBut r n₀ A B) {p : Addr} (hp : p.block < n₀) (hr : p.block ≠ r) : B.cell? p = A.cell? p := by
  unfold World.cell?; rw [h.block _ hp hr]

theorem take_finRange {N k : Nat} (hk : k < N) : (List.finRange N).take (k + 1) = (List.finRange N).take k ++ [⟨k, hk⟩] := by
  rw [List.take_add_one, List.getElem?_eq_getElem (by simpa using hk)]
  simp

set_option maxRecDepth 100000 in
set_option maxHeartbeats 4000000 in
theorem tb_chunk1 (F : Fence) (n : Nat) (h56 : F.fn 56) (hro : F.round = none) (hn : 1 ≤ n) (l Bs Bn r n₀ N cap b off : Nat) (hreach : 2 * N ≤ cap) (hreach2 : N ≤ 4294967296) (hbs : Bs < n₀) (hbn : Bn < n₀) (hrs : Bs ≠ r) (hrn : Bn ≠ r)
    (J Jx : List (Fin N) → World → Prop)
    (hY : ∀ pre x W, J pre W → pre.length < N → YieldAt F (n - 1) Tryz.prog l #[Value.slice (some ⟨b, off + 2 * x.1, none⟩) 2 2] W fun e W' =>
      (e = .returned (.bool true) ∧ J (pre ++ [x]) W' ∧ KBut r n₀ W W') ∨ (e = .returned (.bool false) ∧ Jx (pre ++ [x]) W'))
    (hJd : ∀ pre w, J pre w → J pre w.drew) (W : World) (hBs : W.cell? ⟨Bs, 0, none⟩ = some (.slice (some ⟨b, off, none⟩) (2 * N) cap)) (hBn : W.cell? ⟨Bn, 0, none⟩ = some (.int .i64 2)) (h0 : J [] W) :
    CallsIn F n Tryz.prog 56 #[.func (.yield l) #[] #[], .pointer (some ⟨Bs, 0, none⟩), .pointer (some ⟨Bn, 0, none⟩)] W fun e W' => (∃ v, e = .returned v) ∧
      ((∃ ys, ys = List.finRange N ∧ J ys W') ∨ (∃ pre, True ∧ Jx pre W')) := by
  refine callsIn_of_wp Tryz.func56 rfl h56 ?_ hro
  simp only [Tryz.ntmps56, List.size_toArray, List.length_cons, List.length_nil, Nat.reduceAdd, Nat.reduceSub, Array.replicate_succ, Array.replicate_zero, List.push_toArray, List.append_toArray, List.nil_append, List.cons_append]
  gi_wp2
  gi_loopw [4] (fun i wr => ∃ k : Nat, k ≤ N ∧ i = .int .i64 ((2 * k : Nat) : Int) ∧ J ((List.finRange N).take k) wr ∧ KBut r n₀ W wr)
    (fun i _ => 2 * N - (intOf i).toNat)
  case atStart => exact ⟨0, Nat.zero_le _, rfl, h0, KBut.refl _ _ _⟩
  case round =>
    obtain ⟨k, hk, rfl, hJs, hnx⟩ := hrel
    have hc1 : wr.cell? ⟨Bs, 0, none⟩ = some (.slice (some ⟨b, off, none⟩) (2 * N) cap) := (hnx.cell hbs hrs).trans hBs
    have hc2 : wr.cell? ⟨Bn, 0, none⟩ = some (.int .i64 2) := (hnx.cell hbn hrn).trans hBn
    by_cases hlt : k < N
    · obtain ⟨fn, tmps, assign, body, hy, hR⟩ := hY _ ⟨k, hlt⟩ wr.drew (hJd _ _ hJs) (by simp; omega)
      dsimp only at hy
      have hnx2 : KBut r n₀ W wr.drew := ⟨hnx.os, hnx.tape, hnx.output, hnx.size, hnx.block⟩
      have hmin : min (2 : Int) ((2 * N - 2 * k : Nat) : Int) = 2 := by omega
      gi_wp2
      gi_region
      all_goals
        try simp only [hmin]
        gi_wp2
        refine hR.mono ?_
        rintro e W3 (⟨rfl, hJ3, hk3⟩ | ⟨rfl, hJx3⟩)
        · have hc3 : W3.cell? ⟨Bn, 0, none⟩ = some (.int .i64 2) := ((hnx2.trans hk3).cell hbn hrn).trans hBn
          gi_wp2
          go_roundw
          case rel => exact ⟨k + 1, by omega, by simp; omega, by rw [take_finRange hlt]; exact hJ3, hnx2.trans hk3⟩
          case measure => simp [intOf]; omega
        · gi_wp2
          refine bodyPost_ret (results_none rfl _ _ _) rfl ?_
          exact ⟨⟨_, rfl⟩, .inr ⟨_, trivial, hJx3⟩⟩
    · obtain rfl : k = N := by omega
      gi_wp2
      go_end0
      refine ⟨⟨_, rfl⟩, .inl ⟨_, ?_, hJs⟩⟩
      rw [List.take_of_length_le (by simp)]
end Go.Proofs

namespace Go.Proofs
open Go.RowKit Go.Shelf Go.Lib

set_option maxHeartbeats 1000000 in
theorem tb_hasPrefix (s p : ByteArray) (w : World) :
    Calls Tryz.prog 42 #[.string s, .string p] w fun e w' => e = .returned (.bool (Lib.hasPrefix s.data.toList p.data.toList)) ∧ w' = w := by
  rw [← Lib.hasPrefix_of_take, ← Lib.size_eq, ← Lib.size_eq]
  go_enter Tryz.func42, Tryz.ntmps42
  go_wp2
  · rename_i h
    go_ret
    refine ⟨?_, rfl⟩
    show Ending.returned (Value.bool ((s.extract 0 p.size).toList == p.toList)) = _
    rw [Lib.extract_toList, Lib.toList_data]
    simp [h]
  · rename_i h
    go_ret
    refine ⟨?_, rfl⟩
    show Ending.returned (Value.bool false) = _
    simp [h]

set_option maxHeartbeats 1000000 in
theorem tb_hasPrefix24 (s p : ByteArray) (w : World) :
    Calls Tryz.prog 24 #[.string s, .string p] w fun e w' => e = .returned (.bool (Lib.hasPrefix s.data.toList p.data.toList)) ∧ w' = w := by
  go_enter Tryz.func24, Tryz.ntmps24
  go_wp2_with (go_at_call 42; refine (tb_hasPrefix _ _ _).mono ?_; rintro e w' ⟨rfl, hw⟩; rw [hw])
  go_ret
  exact ⟨rfl, rfl⟩

set_option maxHeartbeats 1000000 in
theorem tb_cutPrefix (s p : ByteArray) (w : World) :
    Calls Tryz.prog 57 #[.string s, .string p] w fun e w' => e = .returned (.tuple #[.string ⟨(Lib.trimPrefix s.data.toList p.data.toList).toArray⟩, .bool (Lib.hasPrefix s.data.toList p.data.toList)]) ∧ w' = w := by
  by_cases h1 : p.size ≤ s.size
  · cases h2 : ((s.extract 0 p.size).toList == p.toList)
    · have hh : Lib.hasPrefix s.data.toList p.data.toList = false := by rw [← Lib.hasPrefix_raw, h2]; simp
      go_enter Tryz.func57, Tryz.ntmps57
      go_wp2_with (go_at_call 42; refine (tb_hasPrefix _ _ _).mono ?_; rintro e w' ⟨rfl, hw⟩; rw [hw, hh])
      go_ret2
      refine ⟨?_, rfl⟩
      rw [Lib.trimPrefix_miss s p (by rw [h2]; simp), hh]
      rfl
    · have hh : Lib.hasPrefix s.data.toList p.data.toList = true := by rw [← Lib.hasPrefix_raw, h2]; simp [h1]
      go_enter Tryz.func57, Tryz.ntmps57
      go_wp2_with (go_at_call 42; refine (tb_hasPrefix _ _ _).mono ?_; rintro e w' ⟨rfl, hw⟩; rw [hw, hh])
      go_ret2
      refine ⟨?_, rfl⟩
      rw [Lib.trimPrefix_hit s p h1 h2, hh]
      rfl
  · have hh : Lib.hasPrefix s.data.toList p.data.toList = false := by rw [← Lib.hasPrefix_raw]; simp [h1]
    go_enter Tryz.func57, Tryz.ntmps57
    go_wp2_with (go_at_call 42; refine (tb_hasPrefix _ _ _).mono ?_; rintro e w' ⟨rfl, hw⟩; rw [hw, hh])
    go_ret2
    refine ⟨?_, rfl⟩
    rw [Lib.trimPrefix_miss s p (by simp [h1]), hh]
    rfl

set_option maxHeartbeats 1000000 in
theorem tb_cutPrefix34 (s p : ByteArray) (w : World) :
    Calls Tryz.prog 34 #[.string s, .string p] w fun e w' => e = .returned (.tuple #[.string ⟨(Lib.trimPrefix s.data.toList p.data.toList).toArray⟩, .bool (Lib.hasPrefix s.data.toList p.data.toList)]) ∧ w' = w := by
  go_enter Tryz.func34, Tryz.ntmps34
  go_wp2_with (go_at_call 57; refine (tb_cutPrefix _ _ _).mono ?_; rintro e w' ⟨rfl, hw⟩; rw [hw])
  go_ret2
  exact ⟨rfl, rfl⟩
end Go.Proofs
