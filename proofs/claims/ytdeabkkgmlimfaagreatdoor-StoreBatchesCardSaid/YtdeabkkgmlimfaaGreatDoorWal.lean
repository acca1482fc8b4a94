/-
  Contracts of sum, sector, region, wal.
-/
import Derived.Test.YtdeabkkgmlimfaaGreatDoorSh
import Derived.Laws.Externs
import Derived.Shelf.Bytes.SlCountOne

set_option linter.unusedVariables false
set_option linter.unusedSimpArgs false

namespace Go.AM
open Go Go.Proofs

abbrev AC (mx : Int) (f : FuncId) (args : List AV) (h : H) (Q : QQ) : Prop := ACall Tryz.prog (gl0 mx) f args h Q

theorem ty_any (mx : Int) (a : List Nat) (b : List (Nat × List (Pl × Sh) × List Pl)) (c : List (Nat × JS)) : TyOK ⟨Tryz.prog, tts, gl0 mx, a, b, c⟩ := tyOK_of_check tis_ok zs_ok
theorem mix_any (mx : Int) (a : List Nat) (b : List (Nat × List (Pl × Sh) × List Pl)) (c : List (Nat × JS)) : (Cx.mk Tryz.prog tts (gl0 mx) a b c).P.follows .mixedOrders = true := mix_ok
theorem call_gen {P : Program} {tt : List TI} {gl : Nat → AV} {a : List Nat} {b : List (Nat × List (Pl × Sh) × List Pl)} {c : List (Nat × JS)} (ty : TyOK ⟨P, tt, gl, a, b, c⟩) (mix : P.follows .mixedOrders = true) {f : FuncId} {fn : Func} {args : List AV} {h : H} {Q : QQ} {X : Prop}
    (hfn : P.funcs[f]? = some fn) (hname : (fn.name == "runtime.NumGoroutine") = false) (hw : fnx ⟨P, tt, gl, a, b, c⟩ (ACall P gl) fn args h Q = X) (hx : X) : ACall P gl f args h Q := by
  have hx' : fnx ⟨P, tt, gl, a, b, c⟩ (ACall P gl) fn args h Q := by rw [hw]; exact hx
  have hn : fn.name ≠ "runtime.NumGoroutine" := fun e => by rw [e] at hname; simp at hname
  exact acall_of (cx := ⟨P, tt, gl, a, b, c⟩) ty mix hfn hn hx'
theorem call_of {a : List Nat} {b : List (Nat × List (Pl × Sh) × List Pl)} {c : List (Nat × JS)} {mx : Int} {f : FuncId} {fn : Func} {args : List AV} {h : H} {Q : QQ} {X : Prop} (hfn : Tryz.prog.funcs[f]? = some fn) (hname : (fn.name == "runtime.NumGoroutine") = false)
    (hw : fnx ⟨Tryz.prog, tts, gl0 mx, a, b, c⟩ (AC mx) fn args h Q = X) (hx : X) : AC mx f args h Q :=
  @call_gen Tryz.prog tts (gl0 mx) a b c (ty_any mx a b c) mix_ok f fn args h Q X hfn hname hw hx

/-- Whoever holds the tail of a slice. -/
def TLive (h : H) : Tag → Prop
  | .own b e => h.t b = some e
  | .full => True
  | .any => False
def tids : Tag → List Nat
  | .own b _ => [b]
  | _ => []

structure TStep (h : H) (t : Tag) (h' : H) (t' : Tag) : Prop where
  m : h'.m = h.m
  live : TLive h' t'
  ts : ∀ b e, b ∉ tids t → h.t b = some e → h'.t b = some e
  new : ∀ b ∈ tids t', b ∈ tids t ∨ h.free b

theorem with_step {h : H} {t' : Tag} (ht : TagOK h t') : TStep h .full (h.with t') t' := by
  cases t' with
  | any => exact ht.elim
  | full => exact ⟨rfl, trivial, fun _ _ _ h => h, fun _ h => by simp [tids] at h⟩
  | own b e =>
    refine ⟨rfl, by simp [TLive, H.with, H.tput], fun c e' _ hc => ?_, fun c hc => ?_⟩
    · have hne : c ≠ b := by rintro rfl; rw [ht.2] at hc; cases hc
      simp [H.with, H.tput, hne, hc]
    · simp [tids] at hc; subst hc; exact .inr ht

theorem ap_intro {i : TI} {h : H} {t : Tag} {sz : Nat} {xs ys : List AV} {K : AV → H → Prop} (hs : sz = i.size) (hb : 0 < i.bytes) (hok : okElems i ys) (hlen : (xs.length + ys.length) * i.bytes ≤ 140737488355328)
    (ht : TLive h t) (hk : ∀ t' h', TStep h t h' t' → K (.lst t' sz (xs ++ ys)) h') : apP i h (.lst t sz xs) ys K := by
  refine ⟨hs, hb, hok, hlen, ?_⟩
  cases t with
  | any => exact ht
  | full => exact fun t' h1 => hk _ _ (with_step h1)
  | own b e =>
    refine ⟨ht, fun t' h1 => hk _ _ ?_⟩
    have s := with_step h1
    refine ⟨s.m, s.live, fun c e' hc hce => s.ts c e' (by simp [tids]) ?_, fun c hc => ?_⟩
    · simp only [tids, List.mem_singleton] at hc
      simp [H.tdel, hc, hce]
    · rcases s.new c hc with h2 | h2
      · simp [tids] at h2
      · by_cases hcb : c = b
        · exact .inl (by simp [tids, hcb])
        · right
          refine ⟨h2.1, ?_⟩
          have := h2.2
          simpa [H.tdel, hcb] using this

theorem TStep.stay {h h' : H} {t t' : Tag} (s : TStep h t h' t') : Stay h h' (tids t) (tids t') := ⟨fun b o _ hb => by rw [s.m]; exact hb, s.ts, s.new⟩

theorem ofStr_len (b : List UInt8) : (ofStr b).length = b.length := by simp [ofStr]
theorem ofStr_append (a b : List UInt8) : ofStr (a ++ b) = ofStr a ++ ofStr b := by simp [ofStr]
theorem ofStr_take (b : List UInt8) (n : Nat) : (ofStr b).take n = ofStr (b.take n) := by simp [ofStr, List.map_take]
theorem ofStr_drop (b : List UInt8) (n : Nat) : (ofStr b).drop n = ofStr (b.drop n) := by simp [ofStr, List.map_drop]
theorem ofStr_get {b : List UInt8} {i : Nat} (h : i < b.length) : (ofStr b)[i]? = some (.int .u8 (b[i]).toNat) := by simp [ofStr, h]
theorem ofStr_one {b : List UInt8} : ∀ c ∈ ofStr b, c.one = true := fun c hc => by simp only [ofStr, List.mem_map] at hc; obtain ⟨x, _, rfl⟩ := hc; rfl
theorem ofStr_cells {b : List UInt8} : (ofStr b).flatMap AV.cells = ofStr b := by
  induction b with
  | nil => rfl
  | cons c b ih => simp only [ofStr, List.map_cons, List.flatMap_cons] at ih ⊢; rw [ih]; rfl
theorem ofStr_ok {b : List UInt8} : okElems tt5 (ofStr b) := fun y hy => by
  simp only [ofStr, List.mem_map] at hy
  obtain ⟨x, _, rfl⟩ := hy
  exact ⟨rfl, fun c hc => by simp only [AV.cells, List.mem_singleton] at hc; subst hc; rfl⟩

/-! Numbers. -/
def u32 (n : Nat) : Int := ((n % 4294967296 : Nat) : Int)

theorem wrap_u32 (n : Int) : IntKind.wrap .u32 n = n % 4294967296 := by
  simp only [IntKind.wrap, IntKind.bits, IntKind.signed, Bool.false_and]; rfl
theorem wrap_u8 (n : Int) : IntKind.wrap .u8 n = n % 256 := by
  simp only [IntKind.wrap, IntKind.bits, IntKind.signed, Bool.false_and]; rfl
theorem wrap_i64 {n : Int} (h1 : -9223372036854775808 ≤ n) (h2 : n < 9223372036854775808) : IntKind.wrap .i64 n = n := by
  unfold IntKind.wrap
  simp only [IntKind.bits, IntKind.signed, Bool.true_and]
  split
  · rename_i h; have := of_decide_eq_true h; omega
  · rename_i h; have := of_decide_eq_false (Bool.eq_false_iff.2 h); omega
theorem ar_add {a b : Int} (h1 : -9223372036854775808 ≤ a + b) (h2 : a + b < 9223372036854775808) : ar .add .i64 a b = a + b := wrap_i64 h1 h2
theorem ar_sub {a b : Int} (h1 : -9223372036854775808 ≤ a - b) (h2 : a - b < 9223372036854775808) : ar .sub .i64 a b = a - b := wrap_i64 h1 h2
theorem ar_mul {a b : Int} (h1 : -9223372036854775808 ≤ a * b) (h2 : a * b < 9223372036854775808) : ar .mul .i64 a b = a * b := wrap_i64 h1 h2
end Go.AM

namespace Go.AM
open Go Go.Proofs
set_option maxRecDepth 20000
variable (mx : Int)
theorem k3 (key_ : List UInt8) {h : H} {Q : QQ} (hx : sh3 (AC mx) key_ h Q) : AC mx 3 [.str (key_)] h Q :=
  @call_of (lc3) (lo3) (jo3) mx 3 Tryz.f3 [.str (key_)] h Q _ Tryz.func3 (by kernel_rfl) (w3 mx (AC mx) key_ h Q) hx
theorem k4 (l_ : AV) {h : H} {Q : QQ} (hx : sh4 (AC mx) l_ h Q) : AC mx 4 [l_] h Q :=
  @call_of (lc4) (lo4) (jo4) mx 4 Tryz.f4 [l_] h Q _ Tryz.func4 (by kernel_rfl) (w4 mx (AC mx) l_ h Q) hx
theorem k5 (list_ : AV) (fuse_ : Int) (keep_ : Int) (torn_ : Int) (at_ : Int) (n_ : Int) {h : H} {Q : QQ} (hx : sh5 (AC mx) list_ fuse_ keep_ torn_ at_ n_ h Q) : AC mx 5 [list_, .int .u8 (fuse_), .int .u64 (keep_), .int .i64 (torn_), .int .i64 (at_), .int .u8 (n_)] h Q :=
  @call_of (lc5) (lo5) (jo5) mx 5 Tryz.f5 [list_, .int .u8 (fuse_), .int .u64 (keep_), .int .i64 (torn_), .int .i64 (at_), .int .u8 (n_)] h Q _ Tryz.func5 (by kernel_rfl) (w5 mx (AC mx) list_ fuse_ keep_ torn_ at_ n_ h Q) hx
theorem k6 (d_ : AV) {h : H} {Q : QQ} (hx : sh6 (AC mx) d_ h Q) : AC mx 6 [d_] h Q :=
  @call_of (lc6) (lo6) (jo6) mx 6 Tryz.f6 [d_] h Q _ Tryz.func6 (by kernel_rfl) (w6 mx (AC mx) d_ h Q) hx
theorem k7 (s_ : AV) (key_ : List UInt8) {h : H} {Q : QQ} (hx : sh7 (AC mx) s_ key_ h Q) : AC mx 7 [s_, .str (key_)] h Q :=
  @call_of (lc7) (lo7) (jo7) mx 7 Tryz.f7 [s_, .str (key_)] h Q _ Tryz.func7 (by kernel_rfl) (w7 mx (AC mx) s_ key_ h Q) hx
theorem k9 (s_ : AV) (list_ : AV) {h : H} {Q : QQ} (hx : sh9 (AC mx) s_ list_ h Q) : AC mx 9 [s_, list_] h Q :=
  @call_of (lc9) (lo9) (jo9) mx 9 Tryz.f9 [s_, list_] h Q _ Tryz.func9 (by kernel_rfl) (w9 mx (AC mx) s_ list_ h Q) hx
theorem k10 (s_ : AV) (prefix_ : List UInt8) {h : H} {Q : QQ} (hx : sh10 (AC mx) s_ prefix_ h Q) : AC mx 10 [s_, .str (prefix_)] h Q :=
  @call_of (lc10) (lo10) (jo10) mx 10 Tryz.f10 [s_, .str (prefix_)] h Q _ Tryz.func10 (by kernel_rfl) (w10 mx (AC mx) s_ prefix_ h Q) hx
theorem k11 (s_ : AV) {h : H} {Q : QQ} (hx : sh11 (AC mx) s_ h Q) : AC mx 11 [s_] h Q :=
  @call_of (lc11) (lo11) (jo11) mx 11 Tryz.f11 [s_] h Q _ Tryz.func11 (by kernel_rfl) (w11 mx (AC mx) s_ h Q) hx
theorem k12 (l_ : AV) {h : H} {Q : QQ} (hx : sh12 (AC mx) l_ h Q) : AC mx 12 [l_] h Q :=
  @call_of (lc12) (lo12) (jo12) mx 12 Tryz.f12 [l_] h Q _ Tryz.func12 (by kernel_rfl) (w12 mx (AC mx) l_ h Q) hx
theorem k13 (n_ : Int) {h : H} {Q : QQ} (hx : sh13 (AC mx) n_ h Q) : AC mx 13 [.int .i64 (n_)] h Q :=
  @call_of (lc13) (lo13) (jo13) mx 13 Tryz.f13 [.int .i64 (n_)] h Q _ Tryz.func13 (by kernel_rfl) (w13 mx (AC mx) n_ h Q) hx
theorem k14 (s_ : AV) (rows_ : AV) {h : H} {Q : QQ} (hx : sh14 (AC mx) s_ rows_ h Q) : AC mx 14 [s_, rows_] h Q :=
  @call_of (lc14) (lo14) (jo14) mx 14 Tryz.f14 [s_, rows_] h Q _ Tryz.func14 (by kernel_rfl) (w14 mx (AC mx) s_ rows_ h Q) hx
theorem k15 (rows_ : AV) (l_ : AV) {h : H} {Q : QQ} (hx : sh15 (AC mx) rows_ l_ h Q) : AC mx 15 [rows_, l_] h Q :=
  @call_of (lc15) (lo15) (jo15) mx 15 Tryz.f15 [rows_, l_] h Q _ Tryz.func15 (by kernel_rfl) (w15 mx (AC mx) rows_ l_ h Q) hx
theorem k16 (d_ : AV) (n_ : Int) {h : H} {Q : QQ} (hx : sh16 (AC mx) d_ n_ h Q) : AC mx 16 [d_, .int .i64 (n_)] h Q :=
  @call_of (lc16) (lo16) (jo16) mx 16 Tryz.f16 [d_, .int .i64 (n_)] h Q _ Tryz.func16 (by kernel_rfl) (w16 mx (AC mx) d_ n_ h Q) hx
theorem k17 (d_ : AV) (keep_ : Int) (torn_ : Int) (at_ : Int) {h : H} {Q : QQ} (hx : sh17 (AC mx) d_ keep_ torn_ at_ h Q) : AC mx 17 [d_, .int .u64 (keep_), .int .i64 (torn_), .int .i64 (at_)] h Q :=
  @call_of (lc17) (lo17) (jo17) mx 17 Tryz.f17 [d_, .int .u64 (keep_), .int .i64 (torn_), .int .i64 (at_)] h Q _ Tryz.func17 (by kernel_rfl) (w17 mx (AC mx) d_ keep_ torn_ at_ h Q) hx
theorem k18 (d_ : AV) {h : H} {Q : QQ} (hx : sh18 (AC mx) d_ h Q) : AC mx 18 [d_] h Q :=
  @call_of (lc18) (lo18) (jo18) mx 18 Tryz.f18 [d_] h Q _ Tryz.func18 (by kernel_rfl) (w18 mx (AC mx) d_ h Q) hx
theorem k20 (list_ : AV) {h : H} {Q : QQ} (hx : sh20 (AC mx) list_ h Q) : AC mx 20 [list_] h Q :=
  @call_of (lc20) (lo20) (jo20) mx 20 Tryz.f20 [list_] h Q _ Tryz.func20 (by kernel_rfl) (w20 mx (AC mx) list_ h Q) hx
theorem k21 (s_ : AV) (b_ : AV) {h : H} {Q : QQ} (hx : sh21 (AC mx) s_ b_ h Q) : AC mx 21 [s_, b_] h Q :=
  @call_of (lc21) (lo21) (jo21) mx 21 Tryz.f21 [s_, b_] h Q _ Tryz.func21 (by kernel_rfl) (w21 mx (AC mx) s_ b_ h Q) hx
theorem k22 (seq_ : AV) {h : H} {Q : QQ} (hx : sh22 (AC mx) seq_ h Q) : AC mx 22 [seq_] h Q :=
  @call_of (lc22) (lo22) (jo22) mx 22 Tryz.f22 [seq_] h Q _ Tryz.func22 (by kernel_rfl) (w22 mx (AC mx) seq_ h Q) hx
theorem k23 (m_ : AV) {h : H} {Q : QQ} (hx : sh23 (AC mx) m_ h Q) : AC mx 23 [m_] h Q :=
  @call_of (lc23) (lo23) (jo23) mx 23 Tryz.f23 [m_] h Q _ Tryz.func23 (by kernel_rfl) (w23 mx (AC mx) m_ h Q) hx
theorem k24 (s_ : List UInt8) (prefix_ : List UInt8) {h : H} {Q : QQ} (hx : sh24 (AC mx) s_ prefix_ h Q) : AC mx 24 [.str (s_), .str (prefix_)] h Q :=
  @call_of (lc24) (lo24) (jo24) mx 24 Tryz.f24 [.str (s_), .str (prefix_)] h Q _ Tryz.func24 (by kernel_rfl) (w24 mx (AC mx) s_ prefix_ h Q) hx
theorem k25 (l_ : AV) {h : H} {Q : QQ} (hx : sh25 (AC mx) l_ h Q) : AC mx 25 [l_] h Q :=
  @call_of (lc25) (lo25) (jo25) mx 25 Tryz.f25 [l_] h Q _ Tryz.func25 (by kernel_rfl) (w25 mx (AC mx) l_ h Q) hx
theorem k26 (d_ : AV) {h : H} {Q : QQ} (hx : sh26 (AC mx) d_ h Q) : AC mx 26 [d_] h Q :=
  @call_of (lc26) (lo26) (jo26) mx 26 Tryz.f26 [d_] h Q _ Tryz.func26 (by kernel_rfl) (w26 mx (AC mx) d_ h Q) hx
theorem k27 (d_ : AV) {h : H} {Q : QQ} (hx : sh27 (AC mx) d_ h Q) : AC mx 27 [d_] h Q :=
  @call_of (lc27) (lo27) (jo27) mx 27 Tryz.f27 [d_] h Q _ Tryz.func27 (by kernel_rfl) (w27 mx (AC mx) d_ h Q) hx
theorem k28 (d_ : AV) {h : H} {Q : QQ} (hx : sh28 (AC mx) d_ h Q) : AC mx 28 [d_] h Q :=
  @call_of (lc28) (lo28) (jo28) mx 28 Tryz.f28 [d_] h Q _ Tryz.func28 (by kernel_rfl) (w28 mx (AC mx) d_ h Q) hx
theorem k29 (d_ : AV) (gen_ : Int) {h : H} {Q : QQ} (hx : sh29 (AC mx) d_ gen_ h Q) : AC mx 29 [d_, .int .i64 (gen_)] h Q :=
  @call_of (lc29) (lo29) (jo29) mx 29 Tryz.f29 [d_, .int .i64 (gen_)] h Q _ Tryz.func29 (by kernel_rfl) (w29 mx (AC mx) d_ gen_ h Q) hx
theorem k30 (d_ : AV) (at_ : Int) (end_ : Int) (gen_ : Int) {h : H} {Q : QQ} (hx : sh30 (AC mx) d_ at_ end_ gen_ h Q) : AC mx 30 [d_, .int .i64 (at_), .int .i64 (end_), .int .i64 (gen_)] h Q :=
  @call_of (lc30) (lo30) (jo30) mx 30 Tryz.f30 [d_, .int .i64 (at_), .int .i64 (end_), .int .i64 (gen_)] h Q _ Tryz.func30 (by kernel_rfl) (w30 mx (AC mx) d_ at_ end_ gen_ h Q) hx
theorem k31 (d_ : AV) (at_ : Int) (end_ : Int) {h : H} {Q : QQ} (hx : sh31 (AC mx) d_ at_ end_ h Q) : AC mx 31 [d_, .int .i64 (at_), .int .i64 (end_)] h Q :=
  @call_of (lc31) (lo31) (jo31) mx 31 Tryz.f31 [d_, .int .i64 (at_), .int .i64 (end_)] h Q _ Tryz.func31 (by kernel_rfl) (w31 mx (AC mx) d_ at_ end_ h Q) hx
theorem k32 (s_ : List UInt8) {h : H} {Q : QQ} (hx : sh32 (AC mx) s_ h Q) : AC mx 32 [.str (s_)] h Q :=
  @call_of (lc32) (lo32) (jo32) mx 32 Tryz.f32 [.str (s_)] h Q _ Tryz.func32 (by kernel_rfl) (w32 mx (AC mx) s_ h Q) hx
theorem k33 (s_ : AV) (n_ : Int) {h : H} {Q : QQ} (hx : sh33 (AC mx) s_ n_ h Q) : AC mx 33 [s_, .int .i64 (n_)] h Q :=
  @call_of (lc33) (lo33) (jo33) mx 33 Tryz.f33 [s_, .int .i64 (n_)] h Q _ Tryz.func33 (by kernel_rfl) (w33 mx (AC mx) s_ n_ h Q) hx
theorem k34 (s_ : List UInt8) (prefix_ : List UInt8) {h : H} {Q : QQ} (hx : sh34 (AC mx) s_ prefix_ h Q) : AC mx 34 [.str (s_), .str (prefix_)] h Q :=
  @call_of (lc34) (lo34) (jo34) mx 34 Tryz.f34 [.str (s_), .str (prefix_)] h Q _ Tryz.func34 (by kernel_rfl) (w34 mx (AC mx) s_ prefix_ h Q) hx
theorem k35 (list_ : AV) {h : H} {Q : QQ} (hx : sh35 (AC mx) list_ h Q) : AC mx 35 [list_] h Q :=
  @call_of (lc35) (lo35) (jo35) mx 35 Tryz.f35 [list_] h Q _ Tryz.func35 (by kernel_rfl) (w35 mx (AC mx) list_ h Q) hx
theorem k36 (e_ : Int) {h : H} {Q : QQ} (hx : sh36 (AC mx) e_ h Q) : AC mx 36 [.int .i64 (e_)] h Q :=
  @call_of (lc36) (lo36) (jo36) mx 36 Tryz.f36 [.int .i64 (e_)] h Q _ Tryz.func36 (by kernel_rfl) (w36 mx (AC mx) e_ h Q) hx
theorem k37 (l_ : AV) (b_ : AV) {h : H} {Q : QQ} (hx : sh37 (AC mx) l_ b_ h Q) : AC mx 37 [l_, b_] h Q :=
  @call_of (lc37) (lo37) (jo37) mx 37 Tryz.f37 [l_, b_] h Q _ Tryz.func37 (by kernel_rfl) (w37 mx (AC mx) l_ b_ h Q) hx
theorem k38 (l_ : AV) (b_ : AV) {h : H} {Q : QQ} (hx : sh38 (AC mx) l_ b_ h Q) : AC mx 38 [l_, b_] h Q :=
  @call_of (lc38) (lo38) (jo38) mx 38 Tryz.f38 [l_, b_] h Q _ Tryz.func38 (by kernel_rfl) (w38 mx (AC mx) l_ b_ h Q) hx
theorem k39 (seq_ : AV) {h : H} {Q : QQ} (hx : sh39 (AC mx) seq_ h Q) : AC mx 39 [seq_] h Q :=
  @call_of (lc39) (lo39) (jo39) mx 39 Tryz.f39 [seq_] h Q _ Tryz.func39 (by kernel_rfl) (w39 mx (AC mx) seq_ h Q) hx
theorem k43 (d_ : AV) (at_ : Int) {h : H} {Q : QQ} (hx : sh43 (AC mx) d_ at_ h Q) : AC mx 43 [d_, .int .i64 (at_)] h Q :=
  @call_of (lc43) (lo43) (jo43) mx 43 Tryz.f43 [d_, .int .i64 (at_)] h Q _ Tryz.func43 (by kernel_rfl) (w43 mx (AC mx) d_ at_ h Q) hx
theorem k44 (b_ : AV) {h : H} {Q : QQ} (hx : sh44 (AC mx) b_ h Q) : AC mx 44 [b_] h Q :=
  @call_of (lc44) (lo44) (jo44) mx 44 Tryz.f44 [b_] h Q _ Tryz.func44 (by kernel_rfl) (w44 mx (AC mx) b_ h Q) hx
theorem k45 (gen_ : Int) {h : H} {Q : QQ} (hx : sh45 (AC mx) gen_ h Q) : AC mx 45 [.int .i64 (gen_)] h Q :=
  @call_of (lc45) (lo45) (jo45) mx 45 Tryz.f45 [.int .i64 (gen_)] h Q _ Tryz.func45 (by kernel_rfl) (w45 mx (AC mx) gen_ h Q) hx
theorem k46 (b_ : AV) {h : H} {Q : QQ} (hx : sh46 (AC mx) b_ h Q) : AC mx 46 [b_] h Q :=
  @call_of (lc46) (lo46) (jo46) mx 46 Tryz.f46 [b_] h Q _ Tryz.func46 (by kernel_rfl) (w46 mx (AC mx) b_ h Q) hx
theorem k47 (d_ : AV) (gen_ : Int) {h : H} {Q : QQ} (hx : sh47 (AC mx) d_ gen_ h Q) : AC mx 47 [d_, .int .i64 (gen_)] h Q :=
  @call_of (lc47) (lo47) (jo47) mx 47 Tryz.f47 [d_, .int .i64 (gen_)] h Q _ Tryz.func47 (by kernel_rfl) (w47 mx (AC mx) d_ gen_ h Q) hx
theorem k48 (d_ : AV) (at_ : Int) (end_ : Int) (gen_ : Int) {h : H} {Q : QQ} (hx : sh48 (AC mx) d_ at_ end_ gen_ h Q) : AC mx 48 [d_, .int .i64 (at_), .int .i64 (end_), .int .i64 (gen_)] h Q :=
  @call_of (lc48) (lo48) (jo48) mx 48 Tryz.f48 [d_, .int .i64 (at_), .int .i64 (end_), .int .i64 (gen_)] h Q _ Tryz.func48 (by kernel_rfl) (w48 mx (AC mx) d_ at_ end_ gen_ h Q) hx
theorem k49 (n_ : Int) {h : H} {Q : QQ} (hx : sh49 (AC mx) n_ h Q) : AC mx 49 [.int .i64 (n_)] h Q :=
  @call_of (lc49) (lo49) (jo49) mx 49 Tryz.f49 [.int .i64 (n_)] h Q _ Tryz.func49 (by kernel_rfl) (w49 mx (AC mx) n_ h Q) hx
theorem k50 (b_ : AV) {h : H} {Q : QQ} (hx : sh50 (AC mx) b_ h Q) : AC mx 50 [b_] h Q :=
  @call_of (lc50) (lo50) (jo50) mx 50 Tryz.f50 [b_] h Q _ Tryz.func50 (by kernel_rfl) (w50 mx (AC mx) b_ h Q) hx
theorem k51 (d_ : AV) (at_ : Int) (b_ : AV) {h : H} {Q : QQ} (hx : sh51 (AC mx) d_ at_ b_ h Q) : AC mx 51 [d_, .int .i64 (at_), b_] h Q :=
  @call_of (lc51) (lo51) (jo51) mx 51 Tryz.f51 [d_, .int .i64 (at_), b_] h Q _ Tryz.func51 (by kernel_rfl) (w51 mx (AC mx) d_ at_ b_ h Q) hx
theorem k52 (d_ : AV) {h : H} {Q : QQ} (hx : sh52 (AC mx) d_ h Q) : AC mx 52 [d_] h Q :=
  @call_of (lc52) (lo52) (jo52) mx 52 Tryz.f52 [d_] h Q _ Tryz.func52 (by kernel_rfl) (w52 mx (AC mx) d_ h Q) hx
theorem k53 (s_ : List UInt8) (sep_ : List UInt8) {h : H} {Q : QQ} (hx : sh53 (AC mx) s_ sep_ h Q) : AC mx 53 [.str (s_), .str (sep_)] h Q :=
  @call_of (lc53) (lo53) (jo53) mx 53 Tryz.f53 [.str (s_), .str (sep_)] h Q _ Tryz.func53 (by kernel_rfl) (w53 mx (AC mx) s_ sep_ h Q) hx
theorem k61 (l_ : AV) {h : H} {Q : QQ} (hx : sh61 (AC mx) l_ h Q) : AC mx 61 [l_] h Q :=
  @call_of (lc61) (lo61) (jo61) mx 61 Tryz.f61 [l_] h Q _ Tryz.func61 (by kernel_rfl) (w61 mx (AC mx) l_ h Q) hx
theorem k62 (d_ : AV) (at_ : Int) (end_ : Int) (gen_ : Int) (b_ : AV) {h : H} {Q : QQ} (hx : sh62 (AC mx) d_ at_ end_ gen_ b_ h Q) : AC mx 62 [d_, .int .i64 (at_), .int .i64 (end_), .int .i64 (gen_), b_] h Q :=
  @call_of (lc62) (lo62) (jo62) mx 62 Tryz.f62 [d_, .int .i64 (at_), .int .i64 (end_), .int .i64 (gen_), b_] h Q _ Tryz.func62 (by kernel_rfl) (w62 mx (AC mx) d_ at_ end_ gen_ b_ h Q) hx
theorem k63 (l_ : AV) (e_ : Int) {h : H} {Q : QQ} (hx : sh63 (AC mx) l_ e_ h Q) : AC mx 63 [l_, .int .i64 (e_)] h Q :=
  @call_of (lc63) (lo63) (jo63) mx 63 Tryz.f63 [l_, .int .i64 (e_)] h Q _ Tryz.func63 (by kernel_rfl) (w63 mx (AC mx) l_ e_ h Q) hx
theorem k67 (d_ : AV) (at_ : Int) {h : H} {Q : QQ} (hx : sh67 (AC mx) d_ at_ h Q) : AC mx 67 [d_, .int .i64 (at_)] h Q :=
  @call_of (lc67) (lo67) (jo67) mx 67 Tryz.f67 [d_, .int .i64 (at_)] h Q _ Tryz.func67 (by kernel_rfl) (w67 mx (AC mx) d_ at_ h Q) hx
theorem k68 (d_ : AV) {h : H} {Q : QQ} (hx : sh68 (AC mx) d_ h Q) : AC mx 68 [d_] h Q :=
  @call_of (lc68) (lo68) (jo68) mx 68 Tryz.f68 [d_] h Q _ Tryz.func68 (by kernel_rfl) (w68 mx (AC mx) d_ h Q) hx
theorem k69 (b_ : AV) {h : H} {Q : QQ} (hx : sh69 (AC mx) b_ h Q) : AC mx 69 [b_] h Q :=
  @call_of (lc69) (lo69) (jo69) mx 69 Tryz.f69 [b_] h Q _ Tryz.func69 (by kernel_rfl) (w69 mx (AC mx) b_ h Q) hx
theorem k70 (b_ : AV) (v_ : Int) {h : H} {Q : QQ} (hx : sh70 (AC mx) b_ v_ h Q) : AC mx 70 [b_, .int .u32 (v_)] h Q :=
  @call_of (lc70) (lo70) (jo70) mx 70 Tryz.f70 [b_, .int .u32 (v_)] h Q _ Tryz.func70 (by kernel_rfl) (w70 mx (AC mx) b_ v_ h Q) hx
theorem k71 (b_ : AV) {h : H} {Q : QQ} (hx : sh71 (AC mx) b_ h Q) : AC mx 71 [b_] h Q :=
  @call_of (lc71) (lo71) (jo71) mx 71 Tryz.f71 [b_] h Q _ Tryz.func71 (by kernel_rfl) (w71 mx (AC mx) b_ h Q) hx
theorem k72 (a_ : AV) (b_ : AV) {h : H} {Q : QQ} (hx : sh72 (AC mx) a_ b_ h Q) : AC mx 72 [a_, b_] h Q :=
  @call_of (lc72) (lo72) (jo72) mx 72 Tryz.f72 [a_, b_] h Q _ Tryz.func72 (by kernel_rfl) (w72 mx (AC mx) a_ b_ h Q) hx
theorem k73 (gen_ : Int) (b_ : AV) {h : H} {Q : QQ} (hx : sh73 (AC mx) gen_ b_ h Q) : AC mx 73 [.int .i64 (gen_), b_] h Q :=
  @call_of (lc73) (lo73) (jo73) mx 73 Tryz.f73 [.int .i64 (gen_), b_] h Q _ Tryz.func73 (by kernel_rfl) (w73 mx (AC mx) gen_ b_ h Q) hx
theorem k74 (s_ : AV) (sep_ : AV) {h : H} {Q : QQ} (hx : sh74 (AC mx) s_ sep_ h Q) : AC mx 74 [s_, sep_] h Q :=
  @call_of (lc74) (lo74) (jo74) mx 74 Tryz.f74 [s_, sep_] h Q _ Tryz.func74 (by kernel_rfl) (w74 mx (AC mx) s_ sep_ h Q) hx
theorem k75 (d_ : AV) (at_ : Int) {h : H} {Q : QQ} (hx : sh75 (AC mx) d_ at_ h Q) : AC mx 75 [d_, .int .i64 (at_)] h Q :=
  @call_of (lc75) (lo75) (jo75) mx 75 Tryz.f75 [d_, .int .i64 (at_)] h Q _ Tryz.func75 (by kernel_rfl) (w75 mx (AC mx) d_ at_ h Q) hx
theorem k76 (d_ : AV) {h : H} {Q : QQ} (hx : sh76 (AC mx) d_ h Q) : AC mx 76 [d_] h Q :=
  @call_of (lc76) (lo76) (jo76) mx 76 Tryz.f76 [d_] h Q _ Tryz.func76 (by kernel_rfl) (w76 mx (AC mx) d_ h Q) hx
end Go.AM

namespace Go.AM
open Go Go.Proofs

theorem onC_I {k : IntKind} {n : Int} {K : Int → Prop} : onC (.I k) (.int k n) K = K n := by cases k <;> rfl
theorem onC_B {b : Bool} {K : Bool → Prop} : onC .B (.bool b) K = K b := rfl
theorem onC_S {s : List UInt8} {K : List UInt8 → Prop} : onC .S (.str s) K = K s := rfl
theorem onC_O {v : AV} {K : AV → Prop} : onC .O v K = K v := rfl
theorem ifB_true {X Y : Prop} : ifB true X Y = X := rfl
theorem ifB_false {X Y : Prop} : ifB false X Y = Y := rfl
theorem ifB_t {c : Bool} {X Y : Prop} (h : c = true) (hx : X) : ifB c X Y := by rw [h]; exact hx
theorem ifB_f {c : Bool} {X Y : Prop} (h : c = false) (hy : Y) : ifB c X Y := by rw [h]; exact hy
theorem onT_OI {k : IntKind} {v : AV} {n : Int} {K : AV → Int → Prop} : onT [(false, [.O]), (false, [.I k])] (.tup [v, .int k n]) K = K v n := by cases k <;> rfl
theorem onT_II {k k' : IntKind} {n m : Int} {K : Int → Int → Prop} : onT [(false, [.I k]), (false, [.I k'])] (.tup [.int k n, .int k' m]) K = K n m := by cases k <;> cases k' <;> rfl
theorem onT_OB {v : AV} {b : Bool} {K : AV → Bool → Prop} : onT [(false, [.O]), (false, [.B])] (.tup [v, .bool b]) K = K v b := rfl
theorem onT_SB {s : List UInt8} {b : Bool} {K : List UInt8 → Bool → Prop} : onT [(false, [.S]), (false, [.B])] (.tup [.str s, .bool b]) K = K s b := rfl
theorem onT_OOI {k : IntKind} {v w : AV} {n : Int} {K : AV → AV → Int → Prop} : onT [(false, [.O]), (false, [.O]), (false, [.I k])] (.tup [v, w, .int k n]) K = K v w n := by cases k <;> rfl
theorem onT_SSB {s t : List UInt8} {b : Bool} {K : List UInt8 → List UInt8 → Bool → Prop} : onT [(false, [.S]), (false, [.S]), (false, [.B])] (.tup [.str s, .str t, .bool b]) K = K s t b := rfl
theorem onT_IO {k : IntKind} {v : AV} {n : Int} {K : Int → AV → Prop} : onT [(false, [.I k]), (false, [.O])] (.tup [.int k n, v]) K = K n v := by cases k <;> rfl
theorem nnP_ptr {b o : Nat} {X : Prop} : nnP (.ptr (some (b, o))) X = X := rfl
theorem ptrP_ptr {b o : Nat} {X : Prop} : ptrP (.ptr (some (b, o))) X = X := rfl
theorem ptrP_elp {sz : Nat} {xs : List AV} {i o : Nat} {X : Prop} : ptrP (.elp sz xs i o) X = X := rfl
theorem padd_ptr {b o k : Nat} : padd (.ptr (some (b, o))) k = .ptr (some (b, o + k)) := rfl
theorem padd_elp {sz : Nat} {xs : List AV} {i o k : Nat} : padd (.elp sz xs i o) k = .elp sz xs i (o + k) := rfl
theorem nilPtr_ptr {b o : Nat} {K : Bool → Prop} : nilPtr (.ptr (some (b, o))) K = K false := rfl
theorem nilPtr_nil {K : Bool → Prop} : nilPtr (.ptr none) K = K true := rfl
theorem lenL_lst {t : Tag} {sz : Nat} {xs : List AV} {K : Int → Prop} : lenL (.lst t sz xs) K = K xs.length := rfl
theorem lenL_sl {b o n c : Nat} {K : Int → Prop} : lenL (.sl b o n c) K = K n := rfl
theorem idxP_lst {t : Tag} {sz : Nat} {xs : List AV} {n : Int} {K : AV → Prop} (h0 : 0 ≤ n) (h1 : n < xs.length) (hk : K (.elp sz xs n.toNat 0)) : idxP sz (.lst t sz xs) n K := ⟨rfl, ⟨h0, h1⟩, hk⟩
theorem idxP_lstN {t : Tag} {sz : Nat} {xs : List AV} {n : Nat} {K : AV → Prop} (h : n < xs.length) (hk : K (.elp sz xs n 0)) : idxP sz (.lst t sz xs) (n : Int) K := ⟨rfl, ⟨by omega, by omega⟩, by rw [Int.toNat_natCast]; exact hk⟩
theorem idxP_sl {b o l c sz : Nat} {n : Int} {K : AV → Prop} (h0 : 0 ≤ n) (h1 : n < l) (hk : K (.ptr (some (b, o + n.toNat * sz)))) : idxP sz (.sl b o l c) n K := ⟨⟨h0, h1⟩, hk⟩
theorem takeP_intro {cs : List AV} {o n : Nat} {K : List AV → Prop} (h : o + n ≤ cs.length) (hk : K ((cs.drop o).take n)) : takeP cs o n K := by
  unfold takeP; rw [Nat.ble_eq_true_of_le h]; exact hk
theorem take1 {cs : List AV} {o : Nat} {c : AV} (h : cs[o]? = some c) : (cs.drop o).take 1 = [c] := by
  obtain ⟨hlt, rfl⟩ := List.getElem?_eq_some_iff.1 h
  rw [List.drop_eq_getElem_cons hlt]; rfl
theorem take1P {cs : List AV} {o : Nat} {c : AV} {K : List AV → Prop} (h : cs[o]? = some c) (hk : K [c]) : takeP cs o 1 K :=
  takeP_intro (by have := (List.getElem?_eq_some_iff.1 h).1; omega) (by rw [take1 h]; exact hk)
theorem cellsP_one {v : AV} {K : List AV → Prop} (h : v.one = true) (hk : K [v]) : cellsP v K := by cases v <;> first | exact hk | (simp [AV.one] at h)
theorem ldM_ptr {h : H} {b o n : Nat} {e : TypeId} {cs : List AV} {K : List AV → Prop} (hb : h.m b = some (.cells e cs)) (hn : o + n ≤ cs.length) (hk : K ((cs.drop o).take n)) : ldM h (.ptr (some (b, o))) n K := by
  simp only [ldM, hb]; exact takeP_intro hn hk
theorem ld1_ptr {h : H} {b o : Nat} {e : TypeId} {cs : List AV} {c : AV} {K : AV → Prop} (hb : h.m b = some (.cells e cs)) (hc : cs[o]? = some c) (hk : K c) : ld1 h (.ptr (some (b, o))) K := by
  unfold ld1; simp only [ldM, hb]; exact take1P (K := fun cs => match cs with | [c] => K c | _ => False) hc hk
theorem ld1_elp {h : H} {sz : Nat} {xs : List AV} {i : Nat} {x : AV} {K : AV → Prop} (hx : xs[i]? = some x) (h1 : x.one = true) (hk : K x) : ld1 h (.elp sz xs i 0) K := by
  unfold ld1; simp only [ldM, hx]; exact cellsP_one h1 (take1P (K := fun cs => match cs with | [c] => K c | _ => False) rfl hk)
theorem ld1_elpA {h : H} {sz : Nat} {xs : List AV} {i o : Nat} {cs : List AV} {c : AV} {K : AV → Prop} (hx : xs[i]? = some (.agg cs)) (hc : cs[o]? = some c) (hk : K c) : ld1 h (.elp sz xs i o) K := by
  unfold ld1; simp only [ldM, hx]; exact take1P (K := fun cs => match cs with | [c] => K c | _ => False) hc hk
theorem ldM_elpA {h : H} {sz : Nat} {xs : List AV} {i o n : Nat} {cs : List AV} {K : List AV → Prop} (hx : xs[i]? = some (.agg cs)) (hn : o + n ≤ cs.length) (hk : K ((cs.drop o).take n)) : ldM h (.elp sz xs i o) n K := by
  simp only [ldM, hx]; exact takeP_intro hn hk
theorem stM_ptr {h : H} {b o : Nat} {e : TypeId} {cs xs : List AV} {K : H → Prop} (hb : h.m b = some (.cells e cs)) (h1 : ∀ x ∈ xs, x.one = true) (hn : o + xs.length ≤ cs.length) (hk : K (h.put b (.cells e (cs.take o ++ xs ++ cs.drop (o + xs.length))))) : stM h (.ptr (some (b, o))) xs K := by
  unfold stM
  have ha : xs.all AV.one = true := by simpa using h1
  rw [ha]; simp only [hb, Nat.ble_eq_true_of_le hn]; exact hk
theorem oneP_intro {v : AV} {X : Prop} (h : v.one = true) (hx : X) : oneP v X := by unfold oneP; rw [h]; exact hx
theorem rd_lst {i : TI} {h : H} {t : Tag} {sz : Nat} {xs : List AV} {K : List AV → Prop} (hs : sz = i.size) (hk : K xs) : rdP i h (.lst t sz xs) K := by
  subst hs; show ifN i.size i.size (K xs); unfold ifN; rw [Nat.beq_refl]; exact hk
theorem put_same {h : H} {b : Nat} {o : MObj} : (h.put b o).m b = some o := by simp [H.put]
theorem put_other {h : H} {b c : Nat} {o : MObj} (hne : c ≠ b) : (h.put b o).m c = h.m c := by simp [H.put, hne]
theorem put_t {h : H} {b : Nat} {o : MObj} : (h.put b o).t = h.t := rfl

/-- Backwards from the end to any place. -/
theorem downTo {p : Nat → Prop} {m : Nat} (last : p m) (step : ∀ n, n < m → p (n + 1) → p n) : ∀ n, n ≤ m → p n := fun n hn => by
  obtain ⟨k, rfl⟩ := Nat.exists_eq_add_of_le hn
  clear hn
  induction k generalizing n with
  | zero => exact last
  | succ k ih => exact step n (by omega) (ih (n + 1) (by rw [show n + 1 + k = n + (k + 1) by omega]; exact last) (by intro m hm; exact step m (by omega)))

theorem lss_t {a b : Int} (h : a < b) : cmpI .lss a b = true := by simp [cmpI, h]
theorem lss_f {a b : Int} (h : ¬ a < b) : cmpI .lss a b = false := by simp [cmpI]; omega
theorem geq_t {a b : Int} (h : b ≤ a) : cmpI .geq a b = true := by simp [cmpI, h]
theorem geq_f {a b : Int} (h : ¬ b ≤ a) : cmpI .geq a b = false := by simp [cmpI]; omega
theorem gtr_t {a b : Int} (h : b < a) : cmpI .gtr a b = true := by simp [cmpI, h]
theorem gtr_f {a b : Int} (h : ¬ b < a) : cmpI .gtr a b = false := by simp [cmpI]; omega
theorem eql_t {a b : Int} (h : a = b) : cmpI .eql a b = true := by simp [cmpI, h]
theorem eql_f {a b : Int} (h : a ≠ b) : cmpI .eql a b = false := by simp [cmpI, h]
theorem neq_t {a b : Int} (h : a ≠ b) : cmpI .neq a b = true := by simp [cmpI, h]
theorem neq_f {a b : Int} (h : a = b) : cmpI .neq a b = false := by simp [cmpI, h]

set_option maxRecDepth 20000
theorem foldl_take {α β : Type} {f : β → α → β} {x : β} {b : List α} {n : Nat} (hn : n < b.length) : (b.take (n + 1)).foldl f x = f ((b.take n).foldl f x) b[n] := by
  rw [List.take_add_one, List.getElem?_eq_getElem hn, Option.toList_some, List.foldl_append]; rfl

variable (mx : Int)

/-! Sums. -/
def sumStep (v : Int) : Int := ar .xor .u32 (ar .shr .u32 v 1) (ar .mul .u32 2197175160 (ar .and .u32 v 1))
def iter {α : Type} (f : α → α) : Nat → α → α
  | 0, x => x
  | n + 1, x => iter f n (f x)
def sumByte (v : Int) (c : UInt8) : Int := iter sumStep 8 (ar .xor .u32 v (IntKind.wrap .u32 c.toNat))
def sumOf (b : List UInt8) : Int := ar .xor .u32 4294967295 (b.foldl sumByte 4294967295)

theorem iter_succ {α : Type} (f : α → α) : ∀ (n : Nat) (x : α), iter f (n + 1) x = f (iter f n x)
  | 0, _ => rfl
  | n + 1, x => iter_succ f n (f x)

theorem c71 (b : List UInt8) (t : Tag) {h : H} {Q : QQ} (hlen : b.length < 9223372036854775807) (hq : Q (.int .u32 (sumOf b)) h) : AC mx 71 [.lst t 1 (ofStr b)] h Q := by
  refine k71 mx _ ?_
  unfold sh71
  rw [lenL_lst, ofStr_len]
  intro I hI
  have main : ∀ n, n ≤ b.length → I ((b.take n).foldl sumByte 4294967295) (n : Nat) h := by
    refine downTo ?_ ?_
    · refine hI _ _ _ ?_
      refine ifB_f (lss_f (by omega)) ?_
      rw [List.take_length]
      exact hq
    · intro n hn ih
      refine hI _ _ _ ?_
      refine ifB_t (lss_t (by omega)) ?_
      refine idxP_lstN (by rw [ofStr_len]; omega) ?_
      refine ld1_elp (ofStr_get hn) rfl ?_
      rw [onC_I]
      intro J hJ
      have inner : ∀ k, k ≤ 8 → J (iter sumStep k (ar .xor .u32 ((b.take n).foldl sumByte 4294967295) (IntKind.wrap .u32 (b[n]).toNat))) (k : Nat) h := by
        refine downTo ?_ ?_
        · refine hJ _ _ _ ?_
          refine ifB_f (lss_f (by omega)) ⟨rfl, rfl, ?_⟩
          rw [ar_add (by omega) (by omega)]
          rw [foldl_take hn] at ih
          exact ih
        · intro k hk ih2
          refine hJ _ _ _ ?_
          refine ifB_t (lss_t (by omega)) ⟨by omega, rfl, rfl, rfl, ?_⟩
          rw [ar_add (by omega) (by omega)]
          rw [iter_succ] at ih2
          exact ih2
      exact inner 0 (by omega)
  exact main 0 (by omega)
end Go.AM

namespace Go.AM
open Go Go.Proofs
set_option maxRecDepth 20000

/-- Four bytes. -/
def be4 (n : Nat) : List UInt8 := [UInt8.ofNat (n / 16777216), UInt8.ofNat (n / 65536), UInt8.ofNat (n / 256), UInt8.ofNat n]
def numOf (b : List UInt8) : Nat := b.foldl (fun v c => v * 256 + c.toNat) 0

theorem be4_len (n : Nat) : (be4 n).length = 4 := rfl
theorem numOf_be4 {n : Nat} (h : n < 4294967296) : numOf (be4 n) = n := by
  simp only [numOf, be4, List.foldl_cons, List.foldl_nil, UInt8.toNat_ofNat']
  omega
theorem numOf_lt : ∀ (b : List UInt8), numOf b < 256 ^ b.length := by
  intro b
  have key : ∀ (b : List UInt8) (v : Nat), b.foldl (fun v c => v * 256 + c.toNat) v < (v + 1) * 256 ^ b.length := by
    intro b
    induction b with
    | nil => intro v; simp
    | cons c b ih =>
      intro v
      have h1 := ih (v * 256 + c.toNat)
      have h2 : (v * 256 + c.toNat + 1) * 256 ^ b.length ≤ ((v + 1) * 256) * 256 ^ b.length := Nat.mul_le_mul_right _ (by have := c.toNat_lt; omega)
      rw [List.foldl_cons, List.length_cons, Nat.pow_succ, Nat.mul_comm (256 ^ b.length) 256, ← Nat.mul_assoc]
      omega
  simpa [numOf] using key b 0
theorem be4_inj {n m : Nat} (hn : n < 4294967296) (hm : m < 4294967296) (h : be4 n = be4 m) : n = m := by rw [← numOf_be4 hn, ← numOf_be4 hm, h]

theorem ofNat_u8 (n : Nat) : (((UInt8.ofNat n).toNat : Nat) : Int) = (n : Int) % 256 := by
  rw [UInt8.toNat_ofNat']; omega

theorem shr_u32 (n k : Nat) (hk : k ≤ 32) : ar .shr .u32 (n : Int) (k : Int) = ((n / 2 ^ k : Nat) : Int) := by
  show Int.fdiv (n : Int) (2 ^ (min (k : Int).toNat 32)) = _
  rw [Int.toNat_natCast, Nat.min_eq_left hk, Int.fdiv_eq_ediv_of_nonneg _ (by exact Int.pow_nonneg (by omega))]
  rw [Int.natCast_ediv, Int.natCast_pow]; rfl

theorem ofStr_be4 (n : Nat) : ofStr (be4 n) = [.int .u8 (IntKind.wrap .u8 (ar .shr .u32 n 24)), .int .u8 (IntKind.wrap .u8 (ar .shr .u32 n 16)), .int .u8 (IntKind.wrap .u8 (ar .shr .u32 n 8)), .int .u8 (IntKind.wrap .u8 n)] := by
  have h24 := shr_u32 n 24 (by omega); have h16 := shr_u32 n 16 (by omega); have h8 := shr_u32 n 8 (by omega)
  have e24 : ar .shr .u32 (n : Int) 24 = ((n / 16777216 : Nat) : Int) := h24
  have e16 : ar .shr .u32 (n : Int) 16 = ((n / 65536 : Nat) : Int) := h16
  have e8 : ar .shr .u32 (n : Int) 8 = ((n / 256 : Nat) : Int) := h8
  rw [e24, e16, e8]
  simp only [wrap_u8, ofStr, be4, List.map_cons, List.map_nil, ofNat_u8]

theorem or_add {v c : Nat} (hc : c < 256) : v * 256 ||| c = v * 256 + c := by
  have := Nat.two_pow_add_eq_or_of_lt (i := 8) (b := c) (by omega) v
  rw [show (2 : Nat) ^ 8 = 256 by rfl] at this
  rw [Nat.mul_comm v 256]; omega

theorem or_u32 {a b : Nat} (ha : a < 4294967296) (hb : b < 4294967296) : ar .or .u32 (a : Int) (b : Int) = ((a ||| b : Nat) : Int) := by
  show IntKind.wrap .u32 ((BitVec.ofInt 32 a ||| BitVec.ofInt 32 b).toNat : Int) = _
  rw [wrap_u32, BitVec.toNat_or, BitVec.ofInt_natCast, BitVec.ofInt_natCast, BitVec.toNat_ofNat, BitVec.toNat_ofNat, Nat.mod_eq_of_lt (by omega), Nat.mod_eq_of_lt (by omega)]
  have : a ||| b < 2 ^ 32 := Nat.or_lt_two_pow (by omega) (by omega)
  omega

theorem shl8_u32 {a : Nat} (ha : a < 16777216) : ar .shl .u32 (a : Int) 8 = ((a * 256 : Nat) : Int) := by
  show IntKind.wrap .u32 ((a : Int) * 2 ^ (min (8 : Int).toNat 32)) = _
  rw [wrap_u32]
  have : (2 : Int) ^ (min (8 : Int).toNat 32) = 256 := by rfl
  rw [this]; omega

variable (mx : Int)

/-- Put. -/
theorem c70 {t : Tag} {b : List UInt8} {n : Nat} {h : H} {Q : QQ} (ht : TLive h t) (hlen : b.length + 4 ≤ 140737488355328)
    (hq : ∀ t' h', TStep h t h' t' → Q (.lst t' 1 (ofStr (b ++ be4 n))) h') : AC mx 70 [.lst t 1 (ofStr b), .int .u32 (n : Int)] h Q := by
  refine k70 mx _ _ ?_
  unfold sh70
  refine ⟨by omega, by omega, by omega, by decide, ?_⟩
  rw [← ofStr_be4]
  refine ap_intro rfl (by decide) ofStr_ok ?_ ht fun t' h' s => ?_
  · rw [ofStr_len, ofStr_len, be4_len]; show (b.length + 4) * 1 ≤ _; omega
  · rw [← ofStr_append]; exact hq t' h' s

/-- Get. -/
theorem c44 {t : Tag} {b : List UInt8} {h : H} {Q : QQ} (hlen : b.length < 9223372036854775807) (hq : Q (.int .u32 (numOf (b.take 4) : Int)) h) : AC mx 44 [.lst t 1 (ofStr b)] h Q := by
  refine k44 mx _ ?_
  unfold sh44
  rw [lenL_lst, ofStr_len]
  have hmin : (if (4 : Int) < b.length then (4 : Int) else b.length) = ((min b.length 4 : Nat) : Int) := by split <;> omega
  rw [hmin]
  have hslice : ∀ K : AV → Prop, K (.lst .any 1 (ofStr (b.take 4))) → sliceP 1 (.lst t 1 (ofStr b)) none (some (.v (.int .i64 ((min b.length 4 : Nat) : Int)))) none K := by
    intro K hk
    refine ⟨rfl, ?_⟩
    simp only [optI, ofStr_len]
    refine ⟨⟨by omega, by omega, by omega, by omega⟩, ?_⟩
    simp only [Int.toNat_natCast, Int.toNat_zero, List.drop_zero, ofStr_take]
    have : b.take (min b.length 4) = b.take 4 := by rw [Nat.min_comm, List.take_eq_take_iff]; omega
    rw [this]; exact hk
  refine hslice _ ?_
  rw [lenL_lst, ofStr_len]
  have hb4 : (b.take 4).length ≤ 4 := by rw [List.length_take]; omega
  generalize b.take 4 = c at hq hb4 ⊢
  intro I hI
  have main : ∀ n, n ≤ c.length → I (numOf (c.take n) : Nat) (n : Nat) h := by
    refine downTo ?_ ?_
    · refine hI _ _ _ (ifB_f (lss_f (by omega)) ?_)
      rw [List.take_length]; exact hq
    · intro n hn ih
      refine hI _ _ _ (ifB_t (lss_t (by omega)) ?_)
      refine idxP_lstN (by rw [ofStr_len]; omega) ?_
      refine ld1_elp (ofStr_get hn) rfl ?_
      rw [onC_I]
      refine ⟨by omega, rfl, rfl, ?_⟩
      rw [ar_add (by omega) (by omega)]
      have e : numOf (c.take (n + 1)) = numOf (c.take n) * 256 + c[n].toNat := by unfold numOf; rw [foldl_take hn]
      rw [e] at ih
      have hlt : numOf (c.take n) < 16777216 := by
        have h1 := numOf_lt (c.take n)
        have h2 : (256 : Nat) ^ (c.take n).length ≤ 256 ^ 3 := Nat.pow_le_pow_right (by omega) (by rw [List.length_take]; omega)
        omega
      have hc := c[n].toNat_lt
      rw [shl8_u32 hlt, wrap_u32, Int.emod_eq_of_lt (by omega) (by omega), or_u32 (by omega) (by omega), or_add (by omega)]
      exact ih
  exact main 0 (by omega)

/-- Size. -/
def sizeOf' (n : Nat) : Nat := 1 + (n + 63) / 64
theorem c49 {n : Int} {h : H} {Q : QQ} (h0 : 0 ≤ n) (h1 : n < 9223372036854775000) (hq : Q (.int .i64 (sizeOf' n.toNat : Nat)) h) : AC mx 49 [.int .i64 n] h Q := by
  refine k49 mx _ ?_
  unfold sh49
  refine ⟨by omega, ?_⟩
  rw [if_neg (by omega), ar_add (a := n) (b := 64) (by omega) (by omega), ar_sub (a := n + 64) (b := 1) (by omega) (by omega)]
  have e : ar .quo .i64 (n + 64 - 1) 64 = ((n.toNat + 63) / 64 : Nat) := by
    show IntKind.wrap .i64 (Int.tdiv (n + 64 - 1) 64) = _
    rw [Int.tdiv_eq_ediv_of_nonneg (by omega), wrap_i64 (by omega) (by omega)]
    omega
  rw [e, ar_add (by omega) (by omega)]
  have : (1 : Int) + ((n.toNat + 63) / 64 : Nat) = (sizeOf' n.toNat : Nat) := by unfold sizeOf'; omega
  rw [this]; exact hq
end Go.AM

namespace Go.AM
open Go Go.Proofs
set_option maxRecDepth 20000
variable (mx : Int)

theorem Gh.has_cell {g : Gh} {h : H} {w : World} (r : Rel g h w) {b o : Nat} {vs : List Value} (hh : g.has b o vs) {i : Nat} {v : Value} (hv : vs[i]? = some v) : w.cell? ((⟨b, o, none⟩ : Addr).add i) = some v := by
  have e : (⟨b, o, none⟩ : Addr).add i = ⟨b, o + i, none⟩ := by unfold Addr.add; split <;> simp_all
  rw [e]; exact r.im _ _ _ (hh i v hv)

/-- The cells of a row of bytes. -/
theorem bytes_at {g : Gh} {h : H} {w : World} (r : Rel g h w) {t : Tag} {b : List UInt8} {v : Value} (hv : VR g (.lst t 1 (ofStr b)) v) :
    (v = .slice none 0 0 ∧ b = []) ∨ ∃ a cap, v = .slice (some a) b.length cap ∧ ∀ i c, b[i]? = some c → w.cell? (a.add i) = some (.int .u8 c.toNat) := by
  generalize hx : ofStr b = xs at hv
  cases hv with
  | lstn => left; refine ⟨rfl, ?_⟩; cases b with
    | nil => rfl
    | cons c b => simp [ofStr] at hx
  | lst _ _ _ vs bl o cap hvs hsz hh ht hc =>
    right
    subst hx
    rw [ofStr_cells] at hvs
    refine ⟨_, cap, by rw [ofStr_len], fun i c hi => ?_⟩
    obtain ⟨u, hu, hr⟩ := hvs.get (i := i) (a := .int .u8 c.toNat) (by simp [ofStr, hi])
    cases hr
    exact Gh.has_cell r hh hu

theorem ac_native {f : FuncId} {args : List AV} {h : H} {Q : QQ} (H : ∀ g w vs, GlOK (gl0 mx) g → Rel g h w → VRs g args vs → ∃ v av, (callFunc f vs.toArray).run Tryz.prog w = .ok (.value v) w ∧ VR g av v ∧ Q av h) : AC mx f args h Q := by
  intro g w vs h1 h2 h3
  obtain ⟨v, av, e, hv, hq⟩ := H g w vs h1 h2 h3
  unfold CallsX
  rw [e]
  exact ⟨g, h, av, hq, .refl h2, hv⟩

theorem vrs2 {g : Gh} {a b : AV} {vs : List Value} (h : VRs g [a, b] vs) : ∃ v w, vs = [v, w] ∧ VR g a v ∧ VR g b w := by
  cases h with
  | cons h1 h2 => cases h2 with
    | cons h3 h4 => cases h4; exact ⟨_, _, rfl, h1, h3⟩
theorem vrs1 {g : Gh} {a : AV} {vs : List Value} (h : VRs g [a] vs) : ∃ v, vs = [v] ∧ VR g a v := by
  cases h with
  | cons h1 h2 => cases h2; exact ⟨_, rfl, h1⟩

def cnt0 (b : List UInt8) : Nat := b.countP (· == 0)
theorem cnt0_all {b : List UInt8} : (cnt0 b : Int) = b.length ↔ ∀ c ∈ b, c = 0 := by
  unfold cnt0
  rw [Int.natCast_inj, List.countP_eq_length]
  simp

/-- Count, at 0. -/
theorem c94 {t : Tag} {b : List UInt8} {h : H} {Q : QQ} (hq : Q (.int .i64 (cnt0 b : Int)) h) : AC mx 94 [.lst t 1 (ofStr b), .int .u8 0] h Q := by
  refine ac_native mx fun g w vs hg hr hvs => ?_
  obtain ⟨v, u, rfl, hv, hu⟩ := vrs2 hvs
  cases hu
  have hrun : ∀ x, (Extern.BytealgCount.count #[v, .int .u8 0]).run Tryz.prog w = .ok x w → (callFunc 94 [v, .int .u8 0].toArray).run Tryz.prog w = .ok (.value x) w := by
    intro x hx
    rw [run_callFunc_extern Tryz.func94 (by kernel_rfl) (by kernel_rfl) (by kernel_rfl) (e := Extern.BytealgCount.count) (by kernel_rfl), hx]
    rfl
  rcases bytes_at hr hv with ⟨rfl, rfl⟩ | ⟨a, cap, rfl, hc⟩
  · exact ⟨_, _, hrun _ (Lib.run_countNil w 0 0 0), .int _ _, hq⟩
  · refine ⟨_, _, hrun _ (Lib.run_countAt w a b.length cap (b.map fun c => (c.toNat : Int)) (by simp) (fun i hi => ?_) 0), .int _ _, ?_⟩
    · have := hc i b[i] (List.getElem?_eq_getElem hi)
      rw [this]; simp [hi]
    · have e : ((Lib.countByte (Lib.bytesOf (b.map fun c => (c.toNat : Int))) (0 : Int).toNat.toUInt8 : Nat) : Int) = (cnt0 b : Int) := by
        have : Lib.bytesOf (b.map fun c => (c.toNat : Int)) = b := by simp [Lib.bytesOf, Function.comp_def]
        rw [this]; rfl
      rw [e]; exact hq
end Go.AM

namespace Go.AM
open Go Go.Proofs
set_option maxRecDepth 20000

theorem ifN_i {a b : Nat} {X : Prop} (h : a = b) (hx : X) : ifN a b X := by subst h; unfold ifN; rw [Nat.beq_refl]; exact hx
theorem H.le_refl (h : H) : h.le h := ⟨fun _ _ h => h, fun _ _ h => h⟩
theorem H.le_trans {a b c : H} (h1 : a.le b) (h2 : b.le c) : a.le c := ⟨fun x o h => h2.1 x o (h1.1 x o h), fun x o h => h2.2 x o (h1.2 x o h)⟩
theorem le_put {h : H} {n : Nat} {o : MObj} (hf : h.free n) : h.le (h.put n o) := ⟨fun b x hb => by
  have : b ≠ n := by rintro rfl; rw [hf.1] at hb; cases hb
  rw [put_other this]; exact hb, fun _ _ h => h⟩
theorem put_put {h : H} {b : Nat} {o o' : MObj} : (h.put b o).put b o' = h.put b o' := by
  unfold H.put; congr 1; funext x; by_cases e : x = b <;> simp [e]
theorem st_all {h : H} {b : Nat} {e : TypeId} {cs xs : List AV} {K : H → Prop} (hb : h.m b = some (.cells e cs)) (h1 : ∀ x ∈ xs, x.one = true) (hn : xs.length = cs.length) (hk : K (h.put b (.cells e xs))) : stM h (.ptr (some (b, 0))) xs K := by
  refine stM_ptr hb h1 (by omega) ?_
  rw [List.take_zero, Nat.zero_add, hn, List.drop_length, List.nil_append, List.append_nil]; exact hk
theorem st_one {h : H} {b o : Nat} {e : TypeId} {cs : List AV} {x : AV} {K : H → Prop} (hb : h.m b = some (.cells e cs)) (h1 : x.one = true) (hn : o < cs.length) (hk : K (h.put b (.cells e (cs.set o x)))) : stM h (.ptr (some (b, o))) [x] K := by
  refine stM_ptr hb (by simpa using h1) (by simp; omega) ?_
  have : cs.take o ++ [x] ++ cs.drop (o + [x].length) = cs.set o x := by
    rw [List.set_eq_take_append_cons_drop, if_pos hn]; simp
  rw [this]; exact hk

theorem nn {b o : Nat} {X : Prop} (hx : X) : nnP (.ptr (some (b, o))) (ptrP (.ptr (some (b, o))) X) := hx
structure Dk where
  lasts : List (List UInt8)
  loose : List (Nat × List UInt8)
  fuse : Int
  down : Bool

def wAV (w : Nat × List UInt8) : AV := .agg (.int .i64 (w.1 : Int) :: ofStr w.2)
def Dk.obj (D : Dk) (bl : Nat) (t : Tag) : List AV := [.sl bl 0 D.lasts.length D.lasts.length, .lst t 65 (D.loose.map wAV), .int .i64 D.fuse, .bool D.down]
def Dk.flat (D : Dk) : List AV := ofStr D.lasts.flatten

structure DkOK (D : Dk) : Prop where
  n : D.lasts.length ≤ 1024
  c : ∀ c ∈ D.lasts, c.length = 64
  l : ∀ w ∈ D.loose, w.1 < D.lasts.length ∧ w.2.length = 64
  ln : D.loose.length ≤ 1000000000
  f0 : -1 ≤ D.fuse
  f1 : D.fuse < 9223372036854775808

structure DAt1 (h : H) (p : Nat) (D : Dk) (bl : Nat) (t : Tag) : Prop where
  hp : h.m p = some (.cells 67 (D.obj bl t))
  hb : h.m bl = some (.cells 71 D.flat)
  live : TLive h t
  ok : DkOK D
  nd : ([p, bl] ++ tids t).Nodup

def DAt (p : Nat) (D : Dk) (h : H) (ids : List Nat) : Prop := ∃ bl t, ids = [p, bl] ++ tids t ∧ DAt1 h p D bl t

theorem tlive_le {h h' : H} {t : Tag} (hl : ∀ b ∈ tids t, ∀ e, h.t b = some e → h'.t b = some e) (hv : TLive h t) : TLive h' t := by
  cases t with
  | any => exact hv
  | full => trivial
  | own b e => exact hl b (by simp [tids]) e hv

theorem dat_obj (p : Nat) (D : Dk) : Obj' (DAt p D) where
  le := by
    rintro h h' ids ⟨bl, t, rfl, ⟨h1, h2, h3, h4, h5⟩⟩ hle
    exact ⟨bl, t, rfl, ⟨(hle p (by simp)).1 _ h1, (hle bl (by simp)).1 _ h2, tlive_le (fun b hb e => (hle b (by simp [hb])).2 e) h3, h4, h5⟩⟩
  lie := by
    rintro h ids ⟨bl, t, rfl, ⟨h1, h2, h3, h4, h5⟩⟩ b hb hf
    simp only [List.cons_append, List.nil_append, List.mem_cons] at hb
    rcases hb with rfl | rfl | hb
    · rw [hf.1] at h1; cases h1
    · rw [hf.1] at h2; cases h2
    · cases t with
      | any => exact h3
      | full => simp [tids] at hb
      | own c e => simp [tids] at hb; subst hb; have := hf.2; rw [show h.t b = some e from h3] at this; cases this

theorem dk_len {D : Dk} (hok : DkOK D) : D.lasts.flatten.length = D.lasts.length * 64 := by
  have key : ∀ (l : List (List UInt8)), (∀ c ∈ l, c.length = 64) → l.flatten.length = l.length * 64 := by
    intro l
    induction l with
    | nil => intro _; rfl
    | cons c l ih =>
      intro hc
      rw [List.flatten_cons, List.length_append, ih fun d hd => hc d (by simp [hd]), hc c (by simp), List.length_cons]; omega
  exact key _ hok.c
theorem flat_len' {D : Dk} (hok : DkOK D) : D.flat.length = D.lasts.length * 64 := by unfold Dk.flat; rw [ofStr_len, dk_len hok]

theorem flatten_at {l : List (List UInt8)} (hc : ∀ c ∈ l, c.length = 64) {i : Nat} {c : List UInt8} (hi : l[i]? = some c) : (l.flatten.drop (i * 64)).take 64 = c := by
  induction l generalizing i with
  | nil => simp at hi
  | cons x l ih =>
    have hx := hc x (by simp)
    cases i with
    | zero => simp at hi; subst hi; simp [← hx]
    | succ i =>
      simp at hi
      rw [List.flatten_cons, show (i + 1) * 64 = x.length + i * 64 by omega, ← List.drop_drop, List.drop_left]
      exact ih (fun d hd => hc d (by simp [hd])) hi

variable (mx : Int)

/-- Len. -/
theorem c26 {p : Nat} {D : Dk} {h : H} {ids : List Nat} {Q : QQ} (hd : DAt p D h ids) (hq : Q (.int .i64 (D.lasts.length : Int)) h) : AC mx 26 [.ptr (some (p, 0))] h Q := by
  obtain ⟨bl, t, _, h1, h2, h3, h4, h5⟩ := hd
  refine k26 mx _ ?_
  unfold sh26
  rw [nilPtr_ptr]
  exact ld1_ptr h1 rfl hq
theorem c26n {h : H} {Q : QQ} (hq : Q (.int .i64 0) h) : AC mx 26 [.ptr none] h Q := k26 mx _ hq

/-- Is there such a sector? -/
theorem c75 {p : Nat} {D : Dk} {h : H} {ids : List Nat} {at_ : Int} {Q : QQ} (hd : DAt p D h ids) (hq : Q (.bool (decide (0 ≤ at_ ∧ at_ < D.lasts.length))) h) : AC mx 75 [.ptr (some (p, 0)), .int .i64 at_] h Q := by
  refine k75 mx _ _ ?_
  unfold sh75
  by_cases h0 : 0 ≤ at_
  · refine ifB_t (geq_t h0) (c26 mx hd ?_)
    rw [onC_I]
    have : decide (0 ≤ at_ ∧ at_ < (D.lasts.length : Int)) = cmpI .lss at_ D.lasts.length := by simp [cmpI, h0]
    rw [← this]; exact hq
  · refine ifB_f (geq_f h0) ?_
    have : decide (0 ≤ at_ ∧ at_ < (D.lasts.length : Int)) = false := by simp [h0]
    rw [← this]; exact hq

def Dk.burn (D : Dk) : Dk := { D with down := D.down || decide (D.fuse = 0), fuse := if 0 < D.fuse then D.fuse - 1 else D.fuse }
theorem burn_ok {D : Dk} (h : DkOK D) : DkOK D.burn := ⟨h.n, h.c, h.l, h.ln, by have := h.f0; simp only [Dk.burn]; split <;> omega, by have := h.f1; simp only [Dk.burn]; split <;> omega⟩

/-- Another object in the place of a disk's. -/
theorem dat_put {p bl : Nat} {D D' : Dk} {t : Tag} {h : H} (hd : DAt1 h p D bl t) (ho : D'.flat = D.flat) (hok : DkOK D') : DAt1 (h.put p (.cells 67 (D'.obj bl t))) p D' bl t := by
  have hne : bl ≠ p := by rintro rfl; have := hd.nd; simp at this
  exact ⟨put_same, by rw [put_other hne, ho]; exact hd.hb, hd.live, hok, hd.nd⟩
theorem stay_put {p : Nat} {h : H} {o : MObj} {ids : List Nat} (hp : p ∈ ids) : Stay h (h.put p o) ids ids :=
  ⟨fun b x hb hx => by rw [put_other (by rintro rfl; exact hb hp)]; exact hx, fun _ _ _ h => h, fun _ h => .inl h⟩

/-- Has something power? -/
theorem c76 {p : Nat} {D : Dk} {h : H} {ids : List Nat} {Q : QQ} (hd : DAt p D h ids) (hq : ∀ h', DAt p D.burn h' ids → Stay h h' ids ids → Q (.bool (!D.burn.down)) h') : AC mx 76 [.ptr (some (p, 0))] h Q := by
  obtain ⟨bl, t, rfl, hd⟩ := hd
  refine k76 mx _ ?_
  unfold sh76
  intro J hJ
  refine nn <| ld1_ptr hd.hp (c := .int .i64 D.fuse) rfl ?_
  rw [onC_I]
  have two : ∀ h6 (dn : Bool), h6 = h.put p (.cells 67 ({ D with down := dn }.obj bl t)) → dn = (D.down || decide (D.fuse = 0)) → J h6 := by
    rintro h6 dn rfl rfl
    refine hJ _ ?_
    intro J7 hJ7
    refine nn <| ld1_ptr put_same (c := .int .i64 D.fuse) rfl ?_
    rw [onC_I]
    have last : ∀ h14, h14 = h.put p (.cells 67 (D.burn.obj bl t)) → J7 h14 := by
      rintro h14 rfl
      refine hJ7 _ ?_
      refine nn <| ld1_ptr put_same (c := .bool D.burn.down) rfl ?_
      rw [onC_B]
      exact hq _ ⟨bl, t, rfl, dat_put hd rfl (burn_ok hd.ok)⟩ (stay_put (by simp))
    by_cases hf : 0 < D.fuse
    · refine ifB_t (gtr_t hf) ?_
      refine nn <| ld1_ptr put_same (c := .int .i64 D.fuse) rfl ?_
      rw [onC_I]
      refine nn (st_one put_same rfl (by show 2 < 4; omega) ⟨rfl, last _ ?_⟩)
      rw [put_put]
      have := hd.ok.f1
      congr 2
      simp only [Dk.burn, Dk.obj, if_pos hf, List.set]
      rw [ar_sub (by omega) (by omega)]
    · refine ifB_f (gtr_f hf) ⟨rfl, last _ ?_⟩
      simp only [Dk.burn, Dk.obj, if_neg hf]
  by_cases hf : D.fuse = 0
  · refine ifB_t (eql_t hf) ?_
    refine nn (st_one hd.hp rfl (by show 3 < 4; omega) ⟨rfl, two _ true ?_ (by simp [hf])⟩)
    rfl
  · refine ifB_f (eql_f hf) ⟨rfl, two _ D.down ?_ (by simp [hf])⟩
    have : h = h.put p (.cells 67 (D.obj bl t)) := by
      obtain ⟨m, tt⟩ := h
      simp only [H.put, H.mk.injEq, and_true]
      funext x
      by_cases e : x = p
      · subst e; simp only [if_true]; exact hd.hp
      · simp [e]
    exact this
end Go.AM

namespace Go.AM
open Go Go.Proofs
set_option maxRecDepth 20000
variable (mx : Int)

theorem arr_full {b off n sz : Nat} {K : AV → Prop} (h0 : n ≠ 0) (hk : K (.sl b off n n)) : arrP n sz (.ptr (some (b, off))) none none none K := by
  show (0 ≤ (0 : Int) ∧ (0 : Int) ≤ n ∧ (n : Int) ≤ n ∧ (n : Int) ≤ n) ∧ K (.sl b (if (n : Int) = 0 then off else off + (0 : Int).toNat * sz) ((n : Int) - 0).toNat ((n : Int) - 0).toNat)
  refine ⟨⟨by omega, by omega, by omega, by omega⟩, ?_⟩
  rw [if_neg (by omega)]
  simpa using hk
theorem cellsP_agg {cs : List AV} {K : List AV → Prop} (hk : K cs) : cellsP (.agg cs) K := hk
theorem arr_fullE {s : Nat} {xs : List AV} {i off n : Nat} {cs : List AV} {K : AV → Prop} (hx : xs[i]? = some (.agg cs)) (hn : off + n ≤ cs.length) (h1 : ∀ c ∈ cs, c.one = true) (hk : K (.lst .any 1 ((cs.drop off).take n))) : arrP n 1 (.elp s xs i off) none none none K := by
  simp only [arrP, hx]
  refine cellsP_agg <| takeP_intro hn ⟨⟨trivial, fun c hc => h1 c (List.mem_of_mem_drop (List.mem_of_mem_take hc))⟩, ⟨by omega, by omega, by omega, by omega⟩, ?_⟩
  rw [Int.toNat_natCast, List.take_take, Nat.min_self]; exact hk

theorem elemsOf_one : ∀ (n : Nat) (cs : List AV), cs.length = n → elemsOf false 1 n cs = cs
  | 0, cs, h => (List.eq_nil_of_length_eq_zero h).symm
  | n + 1, [], h => by simp at h
  | n + 1, c :: cs, h => by
    simp only [elemsOf, List.headD_cons, List.drop_succ_cons, List.drop_zero]
    rw [elemsOf_one n cs (by simpa using h)]

theorem rd_sl {h : H} {b off n cap : Nat} {e : TypeId} {cs : List AV} {K : List AV → Prop} (hb : h.m b = some (.cells e cs)) (hn : off + n ≤ cs.length) (h1 : ∀ c ∈ (cs.drop off).take n, c.one = true) (hk : K ((cs.drop off).take n)) : rdP tt5 h (.sl b off n cap) K := by
  simp only [rdP, hb]
  refine takeP_intro (by show off + n * 1 ≤ _; omega) ?_
  have e1 : n * tt5.size = n := Nat.mul_one n
  rw [e1]
  refine ⟨h1, ?_⟩
  have : elemsOf tt5.agg tt5.size n ((cs.drop off).take n) = (cs.drop off).take n := elemsOf_one n _ (by simp; omega)
  rw [this]; exact hk

/-- Clone of a row of bytes. -/
theorem c69 {v : AV} {b : List UInt8} {h : H} {Q : QQ} (hv : (∃ t, v = .lst t 1 (ofStr b)) ∨ ∃ bl off cap e cs, v = .sl bl off b.length cap ∧ h.m bl = some (.cells e cs) ∧ off + b.length ≤ cs.length ∧ (cs.drop off).take b.length = ofStr b)
    (hlen : b.length ≤ 140737488355328) (hq : ∀ t, Q (.lst t 1 (ofStr b)) h) : AC mx 69 [v] h Q := by
  refine ACall.weaken (Q := fun v h' => h.le h' ∧ ∃ t, v = .lst t 1 (ofStr b)) ?_ (by rintro v h' ⟨h1, t, rfl⟩; exact ⟨h, h1, hq t⟩)
  refine k69 mx _ ?_
  unfold sh69
  have app : apP tt5 h (.lst .full 1 []) (ofStr b) fun v4 h5 => h.le h5 ∧ ∃ t, v4 = .lst t 1 (ofStr b) := by
    refine ap_intro rfl (by decide) ofStr_ok (by rw [ofStr_len]; show (0 + b.length) * 1 ≤ _; omega) trivial fun t' h' s => ⟨⟨fun x o hx => by rw [s.m]; exact hx, fun x e hx => s.ts x e (by simp [tids]) hx⟩, t', rfl⟩
  rcases hv with ⟨t, rfl⟩ | ⟨bl, off, cap, e, cs, rfl, hb, hn, hcs⟩
  · intro bb hbb
    cases bb with
    | true => exact ⟨h.le_refl, .full, by rw [hbb rfl]⟩
    | false => exact ⟨rfl, rd_lst rfl app⟩
  · refine ⟨rfl, rd_sl hb hn ?_ ?_⟩
    · rw [hcs]; exact ofStr_one
    · rw [hcs]; exact app

theorem lasts_at {D : Dk} (hok : DkOK D) {i : Nat} {c : List UInt8} (hi : D.lasts[i]? = some c) : (D.flat.drop (i * 64)).take 64 = ofStr c ∧ i * 64 + 64 ≤ D.flat.length := by
  have hlt := (List.getElem?_eq_some_iff.1 hi).1
  refine ⟨?_, by rw [flat_len' hok]; omega⟩
  unfold Dk.flat
  rw [ofStr_drop, ofStr_take, flatten_at hok.c hi]

/-- Lasts, of a sector that there is. -/
theorem c67 {p : Nat} {D : Dk} {h : H} {ids : List Nat} {i : Nat} {c : List UInt8} {Q : QQ} (hd : DAt p D h ids) (hi : D.lasts[i]? = some c) (hq : ∀ t, Q (.tup [.lst t 1 (ofStr c), .int .i64 0]) h) : AC mx 67 [.ptr (some (p, 0)), .int .i64 (i : Int)] h Q := by
  refine k67 mx _ _ ?_
  unfold sh67
  have hlt := (List.getElem?_eq_some_iff.1 hi).1
  refine c75 mx hd ?_
  obtain ⟨bl, t, rfl, hd⟩ := hd
  have : decide (0 ≤ (i : Int) ∧ (i : Int) < D.lasts.length) = true := by simp; omega
  rw [this, onC_B]
  refine ifB_f rfl ?_
  refine nn <| ld1_ptr hd.hp (c := .sl bl 0 D.lasts.length D.lasts.length) rfl ?_
  refine idxP_sl (by omega) (by omega) ?_
  rw [Int.toNat_natCast, Nat.zero_add]
  refine arr_full (by omega) ?_
  have hc := hd.ok.c c (List.mem_of_getElem? hi)
  obtain ⟨e1, e2⟩ := lasts_at hd.ok hi
  exact c69 mx (.inr ⟨bl, i * 64, 64, 71, D.flat, by rw [hc], hd.hb, by rw [hc]; exact e2, by rw [hc]; exact e1⟩) (by omega) hq

/-- .. of one that there is not. -/
theorem c67n {p : Nat} {D : Dk} {h : H} {ids : List Nat} {i : Int} {Q : QQ} (hd : DAt p D h ids) (hi : ¬ (0 ≤ i ∧ i < D.lasts.length)) (hq : Q (.tup [.lst .full 1 [], .int .i64 1]) h) : AC mx 67 [.ptr (some (p, 0)), .int .i64 i] h Q := by
  refine k67 mx _ _ ?_
  unfold sh67
  refine c75 mx hd ?_
  have : decide (0 ≤ i ∧ i < (D.lasts.length : Int)) = false := by simpa using hi
  rw [this, onC_B]
  exact ifB_t rfl hq

theorem wAV_get {D : Dk} {n : Nat} (hn : n < D.loose.length) : (D.loose.map wAV)[n]? = some (.agg (.int .i64 (D.loose[n].1 : Int) :: ofStr D.loose[n].2)) := by
  simp [hn, wAV]
theorem w_len {D : Dk} (hok : DkOK D) {n : Nat} (hn : n < D.loose.length) : (AV.int .i64 (D.loose[n].1 : Int) :: ofStr D.loose[n].2).length = 65 := by
  rw [List.length_cons, ofStr_len, (hok.l _ (List.getElem_mem hn)).2]
theorem w_one {D : Dk} {n : Nat} (hn : n < D.loose.length) : ∀ c ∈ AV.int .i64 (D.loose[n].1 : Int) :: ofStr D.loose[n].2, c.one = true := by
  intro c hc
  rcases List.mem_cons.1 hc with rfl | hc
  · rfl
  · exact ofStr_one c hc

/-- Pending. -/
theorem c68 {p : Nat} {D : Dk} {h : H} {ids : List Nat} {Q : QQ} (hd : DAt p D h ids) (hq : ∀ t, Q (.lst t 1 (D.loose.map fun w => .int .i64 (w.1 : Int))) h) : AC mx 68 [.ptr (some (p, 0))] h Q := by
  obtain ⟨bl, t, rfl, hd⟩ := hd
  refine ACall.weaken (Q := fun v h' => h.le h' ∧ ∃ t, v = .lst t 1 (D.loose.map fun w => .int .i64 (w.1 : Int))) ?_ (by rintro v h' ⟨h1, t, rfl⟩; exact ⟨h, h1, hq t⟩)
  refine k68 mx _ ?_
  unfold sh68
  rw [nilPtr_ptr]
  refine ifB_f rfl ?_
  refine nn <| ld1_ptr hd.hp (c := .lst t 65 (D.loose.map wAV)) rfl ?_
  rw [lenL_lst, List.length_map]
  intro I hI
  have hln := hd.ok.ln
  have main : ∀ n, n ≤ D.loose.length → ∀ h1 t1, h.le h1 → TLive h1 t1 → (∀ b ∈ tids t1, h.free b) → I (.lst t1 1 ((D.loose.take n).map fun w => .int .i64 (w.1 : Int))) (n : Nat) h1 := by
    refine downTo ?_ ?_
    · intro h1 t1 hle _ _
      refine hI _ _ _ (ifB_f (lss_f (by omega)) ⟨hle, t1, by rw [List.take_length]⟩)
    · intro n hn ih h1 t1 hle hl hfr
      refine hI _ _ _ (ifB_t (lss_t (by omega)) ?_)
      refine idxP_lstN (by rw [List.length_map]; omega) ?_
      refine ldM_elpA (wAV_get hn) (by rw [w_len hd.ok hn]; omega) ?_
      rw [List.drop_zero, List.take_of_length_le (by rw [w_len hd.ok hn]; omega)]
      intro q hfree
      refine ifN_i (w_len hd.ok hn) ?_
      refine st_all put_same (w_one hn) (by rw [w_len hd.ok hn]; rfl) ?_
      rw [put_put]
      refine ld1_ptr put_same (c := .int .i64 (D.loose[n].1 : Int)) rfl ?_
      rw [onC_I]
      refine ⟨by decide, ?_⟩
      refine ap_intro (t := t1) rfl (by decide) ?_ ?_ ?_ fun t' h' s => ?_
      · intro y hy; simp at hy; subst hy; exact ⟨rfl, fun c hc => by simp [AV.cells] at hc; subst hc; rfl⟩
      · rw [List.length_map, List.length_take]; show (min n _ + 1) * 8 ≤ _; omega
      · exact tlive_le (fun b _ e he => he) hl
      · refine ⟨rfl, rfl, ?_⟩
        rw [ar_add (by omega) (by omega)]
        have e : (D.loose.take (n + 1)).map (fun w => AV.int .i64 (w.1 : Int)) = (D.loose.take n).map (fun w => AV.int .i64 (w.1 : Int)) ++ [.int .i64 (D.loose[n].1 : Int)] := by
          rw [List.take_add_one, List.getElem?_eq_getElem hn]; simp only [Option.toList_some, List.map_append, List.map_cons, List.map_nil]
        rw [← e]
        have hle1 := H.le_trans hle (le_put (o := .cells 73 (.int .i64 (D.loose[n].1 : Int) :: ofStr D.loose[n].2)) hfree)
        refine ih h' t' ⟨fun b o hb => by rw [s.m]; exact hle1.1 b o hb, fun b e hb => s.ts b e ?_ (hle1.2 b e hb)⟩ s.live fun b hb => ?_
        · intro hx; have := (hfr b hx).2; rw [hb] at this; cases this
        · rcases s.new b hb with h2 | h2
          · exact hfr b h2
          · constructor
            · cases hx : h.m b with
              | none => rfl
              | some o => have := hle1.1 b o hx; rw [h2.1] at this; cases this
            · cases hx : h.t b with
              | none => rfl
              | some o => have := hle1.2 b o hx; rw [h2.2] at this; cases this
  exact main 0 (by omega) h .full h.le_refl trivial (by simp [tids])
end Go.AM

namespace Go.AM
open Go Go.Proofs
set_option maxRecDepth 20000
variable (mx : Int)

def readL (l : List (Nat × List UInt8)) (i : Nat) (d : List UInt8) : List UInt8 := l.foldl (fun v w => if w.1 = i then w.2 else v) d
def Dk.read (D : Dk) (i : Nat) : List UInt8 := readL D.loose i (D.lasts.getD i [])

theorem readL_len {l : List (Nat × List UInt8)} {i : Nat} {d : List UInt8} (hl : ∀ w ∈ l, w.2.length = 64) (hd : d.length = 64) : (readL l i d).length = 64 := by
  unfold readL
  induction l generalizing d with
  | nil => exact hd
  | cons w l ih =>
    rw [List.foldl_cons]
    refine ih (fun x hx => hl x (by simp [hx])) ?_
    split
    · exact hl w (by simp)
    · exact hd
theorem read_len {D : Dk} (hok : DkOK D) {i : Nat} (hi : i < D.lasts.length) : (D.read i).length = 64 :=
  readL_len (fun w hw => (hok.l w hw).2) (by rw [List.getD_eq_getElem?_getD, List.getElem?_eq_getElem hi]; exact hok.c _ (List.getElem_mem hi))

/-- Read, of a sector that there is. -/
theorem c43 {p : Nat} {D : Dk} {h : H} {ids : List Nat} {i : Nat} {Q : QQ} (hd : DAt p D h ids) (hi : i < D.lasts.length) (hq : ∀ t, Q (.tup [.lst t 1 (ofStr (D.read i)), .int .i64 0]) h) : AC mx 43 [.ptr (some (p, 0)), .int .i64 (i : Int)] h Q := by
  refine k43 mx _ _ ?_
  unfold sh43
  refine c67 mx hd (List.getElem?_eq_getElem hi) fun t1 => ?_
  rw [onT_OI]
  intro J6 hJ6
  refine c68 mx hd fun t2 => ?_
  rw [lenL_lst, List.length_map]
  intro I hI
  obtain ⟨bl, t, rfl, hd⟩ := hd
  have hln := hd.ok.ln
  have key : ∀ k, k ≤ D.loose.length → (∀ t, Q (.tup [.lst t 1 (ofStr (readL (D.loose.take k) i (D.lasts.getD i []))), .int .i64 0]) h) → I ((k : Int) - 1) h := by
    intro k
    induction k with
    | zero =>
      intro _ hq
      refine hI _ _ (ifB_f (geq_f (by omega)) ⟨rfl, rfl, hJ6 _ ?_⟩)
      have := hq t1
      rwa [List.take_zero, show readL [] i (D.lasts.getD i []) = D.lasts[i] from by simp [readL, hi]] at this
    | succ k ih =>
      intro hk hq
      have hk' : k < D.loose.length := by omega
      have e0 : (((k + 1 : Nat) : Int) - 1) = (k : Int) := by omega
      rw [e0]
      refine hI _ _ (ifB_t (geq_t (by omega)) (ifB_t (eql_t rfl) ?_))
      have hE : readL (D.loose.take (k + 1)) i (D.lasts.getD i []) = if D.loose[k].1 = i then D.loose[k].2 else readL (D.loose.take k) i (D.lasts.getD i []) := foldl_take hk'
      refine nn <| ld1_ptr hd.hp (c := .lst t 65 (D.loose.map wAV)) rfl ?_
      refine idxP_lstN (by rw [List.length_map]; omega) ?_
      rw [ptrP_elp]
      refine ld1_elpA (wAV_get hk') (c := .int .i64 (D.loose[k].1 : Int)) rfl ?_
      rw [onC_I]
      by_cases hat : D.loose[k].1 = i
      · refine ifB_t (eql_t (by omega)) ?_
        refine nn <| ld1_ptr hd.hp (c := .lst t 65 (D.loose.map wAV)) rfl ?_
        refine idxP_lstN (by rw [List.length_map]; omega) ?_
        rw [ptrP_elp]
        refine arr_fullE (wAV_get hk') (by rw [w_len hd.ok hk']; omega) (w_one hk') ?_
        have hl2 := (hd.ok.l _ (List.getElem_mem hk')).2
        have e1 : ((AV.int .i64 (D.loose[k].1 : Int) :: ofStr D.loose[k].2).drop (0 + 1)).take 64 = ofStr D.loose[k].2 := by
          rw [Nat.zero_add, List.drop_succ_cons, List.drop_zero, List.take_of_length_le (by rw [ofStr_len, hl2]; omega)]
        rw [e1]
        refine c69 mx (.inl ⟨_, rfl⟩) (by omega) fun t3 => ?_
        have := hq t3
        rwa [hE, if_pos hat] at this
      · refine ifB_f (eql_f (by omega)) ⟨rfl, rfl, rfl, rfl, ?_⟩
        rw [ar_sub (by omega) (by omega)]
        refine ih (by omega) fun t3 => ?_
        have := hq t3
        rwa [hE, if_neg hat] at this
  rw [ar_sub (by omega) (by omega)]
  exact key _ (Nat.le_refl _) fun t3 => by rw [List.take_length]; exact hq t3

/-- Read, of one that there is not. -/
theorem c43n {p : Nat} {D : Dk} {h : H} {ids : List Nat} {i : Int} {Q : QQ} (hd : DAt p D h ids) (hi : ¬ (0 ≤ i ∧ i < D.lasts.length)) (hq : Q (.tup [.lst .full 1 [], .int .i64 1]) h) : AC mx 43 [.ptr (some (p, 0)), .int .i64 i] h Q := by
  refine k43 mx _ _ ?_
  unfold sh43
  refine c67n mx hd hi ?_
  rw [onT_OI]
  intro J6 hJ6
  refine c68 mx hd fun t2 => ?_
  rw [lenL_lst, List.length_map]
  intro I hI
  refine hI _ _ ?_
  by_cases hz : 0 ≤ ar .sub .i64 (D.loose.length : Int) 1
  · exact ifB_t (geq_t hz) (ifB_f (eql_f (by omega)) ⟨rfl, rfl, hJ6 _ hq⟩)
  · exact ifB_f (geq_f hz) ⟨rfl, rfl, hJ6 _ hq⟩

def pad64 (b : List UInt8) : List UInt8 := b ++ List.replicate (64 - b.length) 0
theorem pad64_len {b : List UInt8} (h : b.length ≤ 64) : (pad64 b).length = 64 := by simp [pad64]; omega

def Dk.write (D : Dk) (i : Nat) (b : List UInt8) : Dk := if D.burn.down then D.burn else { D.burn with loose := D.loose ++ [(i, pad64 b)] }
theorem write_ok {D : Dk} (hok : DkOK D) {i : Nat} {b : List UInt8} (hi : i < D.lasts.length) (hb : b.length ≤ 64) (hln : D.loose.length + 1 ≤ 1000000000) : DkOK (D.write i b) := by
  have h := burn_ok hok
  unfold Dk.write
  split
  · exact h
  · refine ⟨h.n, h.c, fun w hw => ?_, by simpa using hln, h.f0, h.f1⟩
    simp only [List.mem_append, List.mem_singleton] at hw
    rcases hw with hw | rfl
    · exact hok.l w hw
    · exact ⟨hi, pad64_len hb⟩

theorem stay_put_free {h : H} {q : Nat} {o : MObj} (ids : List Nat) (hf : h.free q) : Stay h (h.put q o) ids ids :=
  ⟨fun b x _ hx => (le_put hf).1 b x hx, fun b x _ hx => hx, fun _ hb => .inl hb⟩

theorem dat1_le {h h' : H} {p : Nat} {D : Dk} {bl : Nat} {t : Tag} (hd : DAt1 h p D bl t) (hle : h.le h') : DAt1 h' p D bl t :=
  ⟨hle.1 _ _ hd.hp, hle.1 _ _ hd.hb, tlive_le (fun b _ e he => hle.2 b e he) hd.live, hd.ok, hd.nd⟩
theorem le_stay {h h' : H} (ids : List Nat) (hle : h.le h') : Stay h h' ids ids := ⟨fun b x _ hx => hle.1 b x hx, fun b x _ hx => hle.2 b x hx, fun _ hb => .inl hb⟩

theorem dat_ok {p : Nat} {D : Dk} {h : H} {ids : List Nat} (hd : DAt p D h ids) : DkOK D := by obtain ⟨bl, t, _, hd⟩ := hd; exact hd.ok

/-- Write. -/
theorem c51 {p : Nat} {D : Dk} {h : H} {ids : List Nat} {i : Nat} {b : List UInt8} {tb : Tag} {Q : QQ} (hd : DAt p D h ids) (hi : i < D.lasts.length) (hb : b.length ≤ 64) (hln : D.loose.length + 1 ≤ 1000000000)
    (hq : ∀ h' ids', DAt p (D.write i b) h' ids' → Stay h h' ids ids' → Q (.int .i64 (if D.burn.down then 4 else 0)) h') : AC mx 51 [.ptr (some (p, 0)), .int .i64 (i : Int), .lst tb 1 (ofStr b)] h Q := by
  refine k51 mx _ _ _ ?_
  unfold sh51
  have hok := dat_ok hd
  intro J hJ
  refine c75 mx hd ?_
  have : decide (0 ≤ (i : Int) ∧ (i : Int) < D.lasts.length) = true := by simp; omega
  rw [this, onC_B]
  refine ifB_f rfl ?_
  rw [lenL_lst, ofStr_len]
  refine ⟨rfl, rfl, rfl, hJ _ _ ?_⟩
  rw [gtr_f (by omega)]
  refine ifB_f rfl (c76 mx hd fun h1 hd1 s1 => ?_)
  rw [onC_B]
  by_cases hdn : D.burn.down = true
  · refine ifB_t (by rw [hdn]; rfl) ?_
    have := hq h1 ids (by unfold Dk.write; rw [if_pos hdn]; exact hd1) s1
    rwa [if_pos hdn] at this
  · have hdn' : D.burn.down = false := by simpa using hdn
    refine ifB_f (by rw [hdn']; rfl) ?_
    obtain ⟨bl, t, rfl, hd1⟩ := hd1
    intro q hfree
    refine st_all put_same ?_ rfl ?_
    · intro x hx
      rcases List.mem_cons.1 hx with rfl | hx
      · rfl
      · have : ∀ y ∈ (List.replicate 64 (AV.int .u8 0)), y.one = true := fun y hy => by rw [List.mem_replicate] at hy; rw [hy.2]; rfl
        exact this x hx
    rw [put_put]
    refine arr_full (by omega) ?_
    refine rd_lst rfl ?_
    have hk : ((ofStr b).take 64).flatMap AV.cells = ofStr b := by rw [List.take_of_length_le (by rw [ofStr_len]; exact hb), ofStr_cells]
    show stM _ (.ptr (some (q, 0 + 1))) (((ofStr b).take 64).flatMap AV.cells) _
    rw [hk]
    refine stM_ptr put_same ofStr_one (by rw [ofStr_len]; show 0 + 1 + b.length ≤ 65; omega) ⟨ofStr_ok, ?_⟩
    rw [put_put, ofStr_len]
    have e1 : ((AV.int .i64 (i : Int) :: List.replicate 64 (AV.int .u8 0)).take (0 + 1)) ++ ofStr b ++ ((AV.int .i64 (i : Int) :: List.replicate 64 (AV.int .u8 0)).drop (0 + 1 + b.length)) = .int .i64 (i : Int) :: ofStr (pad64 b) := by
      rw [Nat.zero_add, Nat.add_comm 1 b.length, List.drop_succ_cons, List.drop_replicate]
      simp [pad64, ofStr_append, ofStr]
    have e2 : (.cells 73 (.int .i64 (i : Int) :: ofStr (pad64 b)) : MObj) = .cells 73 (((AV.int .i64 (i : Int) :: List.replicate 64 (AV.int .u8 0)).take (0 + 1)) ++ ofStr b ++ ((AV.int .i64 (i : Int) :: List.replicate 64 (AV.int .u8 0)).drop (0 + 1 + b.length))) := by rw [e1]
    have key : ∀ h2, h2 = h1.put q (.cells 73 (.int .i64 (i : Int) :: ofStr (pad64 b))) → ld1 h2 (.ptr (some (p, 0 + 1))) fun v24 => ldM h2 (.ptr (some (q, 0))) 65 fun cs25 => ifN cs25.length 65 ([0] = List.range 1 ∧ apP tt73 h2 v24 [.agg cs25] fun v26 h27 => nnP (.ptr (some (p, 0))) (ptrP (.ptr (some (p, 0))) (oneP v26 (stM h27 (padd (.ptr (some (p, 0))) 1) [v26] fun h28 => Q (.int .i64 (0)) h28)))) := by
      rintro h2 rfl
      have hle : h1.le (h1.put q (.cells 73 (.int .i64 (i : Int) :: ofStr (pad64 b)))) := le_put hfree
      have hd2 := dat1_le hd1 hle
      have s2 := s1.trans (le_stay _ hle)
      generalize hh2 : h1.put q (.cells 73 (.int .i64 (i : Int) :: ofStr (pad64 b))) = h2 at hd2 s2
      refine ld1_ptr hd2.hp (c := .lst t 65 (D.loose.map wAV)) rfl ?_
      have hl65 : (AV.int .i64 (i : Int) :: ofStr (pad64 b)).length = 65 := by rw [List.length_cons, ofStr_len, pad64_len hb]
      refine ldM_ptr (by rw [← hh2]; exact put_same) (by rw [hl65]; omega) ?_
      rw [List.drop_zero, List.take_of_length_le (by rw [hl65]; omega)]
      refine ifN_i hl65 ⟨by decide, ?_⟩
      refine ap_intro rfl (by decide) ?_ ?_ hd2.live fun t' h' s => ?_
      · intro y hy; simp only [List.mem_singleton] at hy; subst hy
        refine ⟨hl65, fun c hc => ?_⟩
        rcases List.mem_cons.1 hc with rfl | hc
        · rfl
        · exact ofStr_one c hc
      · rw [List.length_map]; show (D.loose.length + 1) * 72 ≤ _; omega
      · refine nn <| oneP_intro rfl ?_
        have hp3 : h'.m p = some (.cells 67 (D.burn.obj bl t)) := by rw [s.m]; exact hd2.hp
        refine st_one hp3 rfl (by show 1 < 4; omega) ?_
        have hnd := hd2.nd
        simp only [List.cons_append, List.nil_append, List.nodup_cons, List.mem_cons, not_or] at hnd
        have hnew : ∀ c ∈ tids t', c ≠ p ∧ c ≠ bl := by
          intro c hc
          rcases s.new c hc with h3 | h3
          · exact ⟨fun e => hnd.1.2 (e ▸ h3), fun e => hnd.2.1 (e ▸ h3)⟩
          · refine ⟨?_, ?_⟩
            · rintro rfl; have := hd2.hp; rw [h3.1] at this; cases this
            · rintro rfl; have := hd2.hb; rw [h3.1] at this; cases this
        have hw := hq (h'.put p (.cells 67 ((D.burn.obj bl t).set (0 + 1) (.lst t' 65 (D.loose.map wAV ++ [.agg (.int .i64 (i : Int) :: ofStr (pad64 b))]))))) ([p, bl] ++ tids t') ?_ ?_
        · rwa [if_neg hdn] at hw
        · refine ⟨bl, t', rfl, ⟨?_, ?_, ?_, ?_, ?_⟩⟩
          · rw [put_same]; unfold Dk.write; rw [if_neg hdn]; simp only [Dk.obj, Dk.burn, List.map_append, List.map_cons, List.map_nil, wAV]; rfl
          · rw [put_other (fun e => hnd.1.1 e.symm), s.m]; unfold Dk.write; rw [if_neg hdn]; exact hd2.hb
          · exact s.live
          · exact write_ok hok hi hb hln
          · simp only [List.cons_append, List.nil_append, List.nodup_cons, List.mem_cons, not_or]
            exact ⟨⟨hnd.1.1, fun hc => (hnew p hc).1 rfl⟩, fun hc => (hnew bl hc).2 rfl, by cases t' <;> simp [tids]⟩
        · have s3 := s.stay
          refine s2.trans ⟨fun c o hc ho => ?_, fun c e hc he => s.ts c e (fun hx => hc (by simp [hx])) he, fun c hc => ?_⟩
          · rw [put_other (by rintro rfl; exact hc (by simp)), s.m]; exact ho
          · simp only [List.cons_append, List.nil_append, List.mem_cons] at hc ⊢
            rcases hc with rfl | rfl | hc
            · exact .inl (.inl rfl)
            · exact .inl (.inr (.inl rfl))
            · rcases s.new c hc with h3 | h3
              · exact .inl (.inr (.inr h3))
              · exact .inr h3
    exact nn <| key _ (by rw [← e1]; rfl)
end Go.AM

namespace Go.AM
open Go Go.Proofs
set_option maxRecDepth 20000
variable (mx : Int)

def applyW (l : List (List UInt8)) (ws : List (Nat × List UInt8)) : List (List UInt8) := ws.foldl (fun l w => l.set w.1 w.2) l
theorem applyW_len {ws : List (Nat × List UInt8)} {l : List (List UInt8)} : (applyW l ws).length = l.length := by
  unfold applyW
  induction ws generalizing l with
  | nil => rfl
  | cons w ws ih => rw [List.foldl_cons, ih, List.length_set]
theorem applyW_c {ws : List (Nat × List UInt8)} {l : List (List UInt8)} (hl : ∀ c ∈ l, c.length = 64) (hw : ∀ w ∈ ws, w.2.length = 64) : ∀ c ∈ applyW l ws, c.length = 64 := by
  unfold applyW
  induction ws generalizing l with
  | nil => exact hl
  | cons w ws ih =>
    rw [List.foldl_cons]
    refine ih (fun c hc => ?_) fun x hx => hw x (by simp [hx])
    rcases List.mem_or_eq_of_mem_set hc with h | rfl
    · exact hl c h
    · exact hw w (by simp)

def Dk.flush (D : Dk) : Dk := if D.burn.down then D.burn else { D.burn with lasts := applyW D.lasts D.loose, loose := [] }
theorem flush_ok {D : Dk} (hok : DkOK D) : DkOK D.flush := by
  have h := burn_ok hok
  unfold Dk.flush
  split
  · exact h
  · exact ⟨by rw [applyW_len]; exact hok.n, applyW_c hok.c fun w hw => (hok.l w hw).2, by simp, by simp, h.f0, h.f1⟩

theorem flatten_set {l : List (List UInt8)} (hc : ∀ c ∈ l, c.length = 64) {i : Nat} {c : List UInt8} (hi : i < l.length) (hl : c.length = 64) : (l.set i c).flatten = l.flatten.take (i * 64) ++ c ++ l.flatten.drop (i * 64 + 64) := by
  induction l generalizing i with
  | nil => simp at hi
  | cons x l ih =>
    have hx := hc x (by simp)
    cases i with
    | zero =>
      rw [List.set_cons_zero, List.flatten_cons, List.flatten_cons, Nat.zero_mul, List.take_zero, List.nil_append, Nat.zero_add, ← hx, List.drop_left]
    | succ i =>
      rw [List.set_cons_succ, List.flatten_cons, List.flatten_cons, ih (fun d hd => hc d (by simp [hd])) (by simpa using hi)]
      have e1 : (i + 1) * 64 = x.length + i * 64 := by omega
      have e2 : (x ++ l.flatten).drop (x.length + (i * 64 + 64)) = l.flatten.drop (i * 64 + 64) := by rw [← List.drop_drop, List.drop_left]
      rw [e1, List.take_length_add_append, Nat.add_assoc, e2, List.append_assoc, List.append_assoc, List.append_assoc]

theorem flat_set {D : Dk} (hok : DkOK D) {i : Nat} {c : List UInt8} (hi : i < D.lasts.length) (hl : c.length = 64) : D.flat.take (i * 64) ++ ofStr c ++ D.flat.drop (i * 64 + 64) = ({ D with lasts := D.lasts.set i c } : Dk).flat := by
  unfold Dk.flat
  rw [ofStr_take, ofStr_drop, ← ofStr_append, ← ofStr_append, ← flatten_set hok.c hi hl]

/-- Flush. -/
theorem c52 {p : Nat} {D : Dk} {h : H} {ids : List Nat} {Q : QQ} (hd : DAt p D h ids)
    (hq : ∀ h' ids', DAt p D.flush h' ids' → Stay h h' ids ids' → Q (.int .i64 (if D.burn.down then 4 else 0)) h') : AC mx 52 [.ptr (some (p, 0))] h Q := by
  refine k52 mx _ ?_
  unfold sh52
  have hok := dat_ok hd
  rw [nilPtr_ptr]
  refine ifB_f rfl (c76 mx hd fun h1 hd1 s1 => ?_)
  rw [onC_B]
  by_cases hdn : D.burn.down = true
  · refine ifB_t (by rw [hdn]; rfl) ?_
    have := hq h1 ids (by unfold Dk.flush; rw [if_pos hdn]; exact hd1) s1
    rwa [if_pos hdn] at this
  · have hdn' : D.burn.down = false := by simpa using hdn
    refine ifB_f (by rw [hdn']; rfl) ?_
    obtain ⟨bl, t, rfl, hd1⟩ := hd1
    refine nn <| ld1_ptr hd1.hp (c := .lst t 65 (D.loose.map wAV)) rfl ?_
    rw [lenL_lst, List.length_map]
    intro I hI
    have hln := hok.ln
    have main : ∀ n, n ≤ D.loose.length → ∀ h2, DAt1 h2 p { D.burn with lasts := applyW D.lasts (D.loose.take n) } bl t → Stay h h2 ([p, bl] ++ tids t) ([p, bl] ++ tids t) → I (n : Nat) h2 := by
      refine downTo ?_ ?_
      · intro h2 hd2 s2
        refine hI _ _ (ifB_f (lss_f (by omega)) ?_)
        refine nn <| st_one hd2.hp rfl (by show 1 < 4; omega) ?_
        have hnd := hd2.nd
        simp only [List.cons_append, List.nil_append, List.nodup_cons, List.mem_cons, not_or] at hnd
        have hw := hq (h2.put p (.cells 67 ((({ D.burn with lasts := applyW D.lasts (D.loose.take D.loose.length) } : Dk).obj bl t).set (0 + 1) (.lst .full 65 [])))) ([p, bl] ++ tids .full) ?_ ?_
        · rwa [if_neg hdn] at hw
        · refine ⟨bl, .full, rfl, ⟨?_, ?_, trivial, flush_ok hok, ?_⟩⟩
          · rw [put_same, List.take_length]; unfold Dk.flush; rw [if_neg hdn]; rfl
          · rw [put_other (fun e => hnd.1.1 e.symm), hd2.hb, List.take_length]; unfold Dk.flush; rw [if_neg hdn]; rfl
          · simp only [tids, List.append_nil, List.nodup_cons, List.mem_singleton, List.not_mem_nil, not_false_eq_true, List.nodup_nil, and_true]; exact hnd.1.1
        · refine s2.trans ⟨fun c o hc ho => ?_, fun c e hc he => he, fun c hc => ?_⟩
          · rw [put_other (by rintro rfl; exact hc (by simp))]; exact ho
          · simp only [tids, List.append_nil] at hc; exact .inl (by simp only [List.mem_append]; exact .inl hc)
      · intro n hn ih h2 hd2 s2
        refine hI _ _ (ifB_t (lss_t (by omega)) ?_)
        refine idxP_lstN (by rw [List.length_map]; omega) ?_
        refine ldM_elpA (wAV_get hn) (by rw [w_len hok hn]; omega) ?_
        rw [List.drop_zero, List.take_of_length_le (by rw [w_len hok hn]; omega)]
        intro q hfree
        refine ifN_i (w_len hok hn) ?_
        refine st_all put_same (w_one hn) (by rw [w_len hok hn]; rfl) ?_
        rw [put_put]
        have hle : h2.le (h2.put q (.cells 73 (.int .i64 (D.loose[n].1 : Int) :: ofStr D.loose[n].2))) := le_put hfree
        have hd3 := dat1_le hd2 hle
        have s3 := s2.trans (le_stay _ hle)
        have hq3 : (h2.put q (.cells 73 (.int .i64 (D.loose[n].1 : Int) :: ofStr D.loose[n].2))).m q = some (.cells 73 (.int .i64 (D.loose[n].1 : Int) :: ofStr D.loose[n].2)) := put_same
        generalize h2.put q (.cells 73 (.int .i64 (D.loose[n].1 : Int) :: ofStr D.loose[n].2)) = h3 at hd3 s3 hq3
        obtain ⟨hat, hl64⟩ := hok.l _ (List.getElem_mem hn)
        refine nn <| ld1_ptr hd3.hp (c := .sl bl 0 (applyW D.lasts (D.loose.take n)).length (applyW D.lasts (D.loose.take n)).length) rfl ?_
        refine ld1_ptr hq3 (c := .int .i64 (D.loose[n].1 : Int)) rfl ?_
        rw [onC_I]
        refine ldM_ptr hq3 (by rw [w_len hok hn]; omega) ?_
        have e1 : ((AV.int .i64 (D.loose[n].1 : Int) :: ofStr D.loose[n].2).drop (0 + 1)).take 64 = ofStr D.loose[n].2 := by
          rw [Nat.zero_add, List.drop_succ_cons, List.drop_zero, List.take_of_length_le (by rw [ofStr_len, hl64]; omega)]
        rw [show ((AV.int .i64 (D.loose[n].1 : Int) :: ofStr D.loose[n].2).drop 1).take 64 = ofStr D.loose[n].2 from e1]
        have hal : (applyW D.lasts (D.loose.take n)).length = D.lasts.length := applyW_len
        refine idxP_sl (by omega) (by omega) ?_
        rw [Int.toNat_natCast, Nat.zero_add]
        refine ifN_i (by rw [ofStr_len, hl64]) ?_
        refine stM_ptr hd3.hb ofStr_one (by rw [flat_len' hd3.ok, ofStr_len, hl64]; show _ ≤ (applyW D.lasts (D.loose.take n)).length * 64; omega) ⟨rfl, rfl, rfl, ?_⟩
        rw [ar_add (by omega) (by omega), ofStr_len, hl64, flat_set hd3.ok (by show _ < (applyW D.lasts (D.loose.take n)).length; omega) hl64]
        have e2 : (applyW D.lasts (D.loose.take n)).set D.loose[n].1 D.loose[n].2 = applyW D.lasts (D.loose.take (n + 1))   := by unfold applyW; exact (foldl_take (f := fun (l : List (List UInt8)) (w : Nat × List UInt8) => l.set w.1 w.2) hn).symm
        have hnd := hd3.nd
        simp only [List.cons_append, List.nil_append, List.nodup_cons, List.mem_cons, not_or] at hnd
        refine ih _ ⟨?_, ?_, hd3.live, ⟨?_, ?_, ?_, ?_, hd3.ok.f0, hd3.ok.f1⟩, hd3.nd⟩ (s3.trans ⟨fun c o hc ho => ?_, fun _ _ _ he => he, fun c hc => .inl hc⟩)
        · rw [put_other hnd.1.1, hd3.hp]; simp only [Dk.obj, applyW_len]
        · rw [put_same]; simp only [Dk.flat, e2]
        · show (applyW D.lasts (D.loose.take (n + 1))).length ≤ 1024; rw [applyW_len]; exact hok.n
        · exact applyW_c hok.c fun w hw => (hok.l w (List.mem_of_mem_take hw)).2
        · show ∀ w ∈ D.loose, w.1 < (applyW D.lasts (D.loose.take (n + 1))).length ∧ _; rw [applyW_len]; exact hok.l
        · exact hln
        · rw [put_other (by rintro rfl; exact hc (by simp))]; exact ho
    exact main 0 (by omega) h1 hd1 s1

/-- Fuse. -/
theorem c16 {p : Nat} {D : Dk} {h : H} {ids : List Nat} {n : Int} {Q : QQ} (hd : DAt p D h ids) (h1 : n < 9223372036854775808)
    (hq : ∀ h', DAt p { D with fuse := max n 0 } h' ids → Stay h h' ids ids → Q (.tup []) h') : AC mx 16 [.ptr (some (p, 0)), .int .i64 n] h Q := by
  obtain ⟨bl, t, rfl, hd⟩ := hd
  refine k16 mx _ _ ?_
  unfold sh16
  rw [nilPtr_ptr]
  refine ifB_t rfl ?_
  refine nn <| st_one hd.hp rfl (by show 2 < 4; omega) ?_
  have e : (.int .i64 (if (0 : Int) > n then 0 else n) : AV) = .int .i64 (max n 0) := by congr 1; split <;> omega
  rw [e]
  exact hq _ ⟨bl, t, rfl, dat_put (D' := { D with fuse := max n 0 }) hd rfl ⟨hd.ok.n, hd.ok.c, hd.ok.l, hd.ok.ln, by show -1 ≤ max n 0; omega, by show max n 0 < _; omega⟩⟩ (stay_put (by simp))

def newDk (n : Nat) : Dk := ⟨List.replicate n (List.replicate 64 0), [], -1, false⟩
theorem newDk_ok {n : Nat} (h : n ≤ 1024) : DkOK (newDk n) := ⟨by simpa [newDk] using h, fun c hc => by simp [newDk] at hc; rw [hc.2]; simp, by simp [newDk], by simp [newDk], by simp [newDk], by simp [newDk]⟩

theorem madeA_zero {n : Nat} : madeA (List.replicate 64 (AV.int .u8 0)) n = List.replicate n (AV.int .u8 0) := by
  unfold madeA
  rw [List.eq_replicate_iff]
  refine ⟨by simp, fun b hb => ?_⟩
  simp only [List.mem_map, List.mem_range, List.length_replicate] at hb
  obtain ⟨i, _, rfl⟩ := hb
  rw [List.getD_eq_getElem?_getD, List.getElem?_replicate, if_pos (Nat.mod_lt _ (by omega))]; rfl

/-- New. -/
theorem c13 {n : Int} {h : H} {Q : QQ} (hn : 0 ≤ n) (hq : ∀ h' p ids, DAt p (newDk (min n.toNat 1024)) h' ids → Stay h h' [] ids → Q (.ptr (some (p, 0))) h') : AC mx 13 [.int .i64 n] h Q := by
  refine k13 mx _ ?_
  unfold sh13
  have e : (if (1024 : Int) < if (0 : Int) > n then 0 else n then 1024 else if (0 : Int) > n then 0 else n) = ((min n.toNat 1024 : Nat) : Int) := by
    rw [if_neg (by omega : ¬ (0 : Int) > n)]; split <;> omega
  rw [e]
  refine ⟨⟨by omega, by omega, by show (64 : Int) * _ ≤ _; omega, by omega⟩, fun bl hbl => ?_⟩
  rw [Int.toNat_natCast]
  refine oneP_intro rfl fun p hp => ?_
  have hnb : bl ≠ p := by
    rintro rfl
    have := hp.1; rw [put_same] at this; cases this
  have hfp : h.free p := ⟨by have := hp.1; rwa [put_other hnb.symm] at this, hp.2⟩
  refine hq _ p ([p, bl] ++ tids .full) ⟨bl, .full, rfl, ⟨?_, ?_, trivial, newDk_ok (by omega), ?_⟩⟩ ⟨fun c o _ ho => ?_, fun c e _ he => he, fun c hc => ?_⟩
  · rw [put_same]; simp [Dk.obj, newDk]
  · rw [put_other hnb, put_same]
    have : madeA tt71.zero.cells (min n.toNat 1024 * tt71.size) = List.replicate (min n.toNat 1024 * 64) (AV.int .u8 0) := madeA_zero
    rw [this]
    have e3 : (newDk (min n.toNat 1024)).flat = List.replicate (min n.toNat 1024 * 64) (AV.int .u8 0) := by
      unfold Dk.flat newDk
      rw [List.flatten_replicate_replicate]
      unfold ofStr
      rw [List.map_replicate]; rfl
    rw [e3]
  · simp [tids]; exact hnb.symm
  · rw [put_other (by rintro rfl; rw [hfp.1] at ho; cases ho), put_other (by rintro rfl; rw [hbl.1] at ho; cases ho)]; exact ho
  · simp [tids] at hc
    rcases hc with rfl | rfl
    · exact .inr hfp
    · exact .inr hbl
end Go.AM

namespace Go.AM
open Go Go.Proofs
set_option maxRecDepth 20000
variable (mx : Int)

theorem TStep.trans {h h' h'' : H} {t t' t'' : Tag} (s : TStep h t h' t') (s' : TStep h' t' h'' t'') : TStep h t h'' t'' where
  m := s'.m.trans s.m
  live := s'.live
  ts := fun b e hb he => s'.ts b e (fun hb' => by
    rcases s.new b hb' with h1 | h1
    · exact hb h1
    · rw [h1.2] at he; cases he) (s.ts b e hb he)
  new := fun b hb => by
    rcases s'.new b hb with h1 | h1
    · exact s.new b h1
    · by_cases ht : b ∈ tids t
      · exact .inl ht
      · right
        refine ⟨by rw [← s.m]; exact h1.1, ?_⟩
        cases hx : h.t b with
        | none => rfl
        | some e => have := s.ts b e ht hx; rw [h1.2] at this; cases this
theorem TStep.le {h h' : H} {t' : Tag} (s : TStep h .full h' t') : h.le h' := ⟨fun b o hb => by rw [s.m]; exact hb, fun b e hb => s.ts b e (by simp [tids]) hb⟩

def sumN (b : List UInt8) : Nat := (sumOf b).toNat
theorem sumOf_range (b : List UInt8) : sumOf b = (sumN b : Int) ∧ sumN b < 4294967296 := by
  have h : sumOf b = sumOf b % 4294967296 := by
    unfold sumOf
    show IntKind.wrap .u32 _ = IntKind.wrap .u32 _ % _
    rw [wrap_u32, Int.emod_emod_of_dvd _ (by decide)]
  have h0 := Int.emod_nonneg (sumOf b) (by decide : (4294967296 : Int) ≠ 0)
  have h1 := Int.emod_lt_of_pos (sumOf b) (by decide : (0 : Int) < 4294967296)
  unfold sumN
  omega

def firstB (gen : Nat) (b : List UInt8) : List UInt8 := (be4 gen ++ be4 b.length ++ be4 (sumN b)) ++ be4 (sumN (be4 gen ++ be4 b.length ++ be4 (sumN b)))
theorem firstB_len (gen : Nat) (b : List UInt8) : (firstB gen b).length = 16 := rfl

theorem wrap_nat_u32 {n : Nat} (h : n < 4294967296) : IntKind.wrap .u32 (n : Int) = (n : Int) := by rw [wrap_u32]; omega

/-- first. -/
theorem c73 {gen : Nat} {t : Tag} {b : List UInt8} {h : H} {Q : QQ} (hg : gen < 4294967296) (hb : b.length < 4294967296) (hq : ∀ t', Q (.lst t' 1 (ofStr (firstB gen b))) h) :
    AC mx 73 [.int .i64 (gen : Int), .lst t 1 (ofStr b)] h Q := by
  refine ACall.weaken (Q := fun v h' => h.le h' ∧ ∃ t, v = .lst t 1 (ofStr (firstB gen b))) ?_ (by rintro v h' ⟨h1, t, rfl⟩; exact ⟨h, h1, hq t⟩)
  refine k73 mx _ _ ?_
  unfold sh73
  rw [wrap_nat_u32 hg]
  refine c70 mx (t := .full) (b := []) trivial (by simp) fun t1 h1 s1 => ?_
  rw [lenL_lst, ofStr_len, wrap_nat_u32 hb]
  refine c70 mx s1.live (by simp [be4_len]) fun t2 h2 s2 => ?_
  have s12 := s1.trans s2
  refine c71 mx b _ (by omega) ?_
  rw [onC_I, (sumOf_range b).1]
  refine c70 mx s12.live (by simp [be4_len]) fun t3 h3 s3 => ?_
  have s13 := s12.trans s3
  refine c71 mx _ _ (by simp [be4_len]) ?_
  rw [onC_I, (sumOf_range _).1]
  refine c70 mx s13.live (by simp [be4_len]) fun t4 h4 s4 => ?_
  exact ⟨(s13.trans s4).le, t4, by simp only [List.nil_append]; rfl⟩

/-- Count, of the byte 0. -/
theorem c74 {t : Tag} {b : List UInt8} {h : H} {Q : QQ} (hq : Q (.int .i64 (cnt0 b : Int)) h) : AC mx 74 [.lst t 1 (ofStr b), .lst .full 1 [.int .u8 0]] h Q := by
  refine k74 mx _ _ ?_
  unfold sh74
  rw [lenL_lst]
  refine ifB_f (eql_f (by simp)) ?_
  rw [lenL_lst]
  refine ifB_t (eql_t rfl) ?_
  refine idxP_lst (by omega) (by simp) ?_
  refine ld1_elp (x := .int .u8 0) rfl rfl ?_
  rw [onC_I]
  refine c94 mx ?_
  rw [onC_I]; exact hq

def zeroB (b : List UInt8) : Bool := decide (∀ c ∈ b, c = 0)
/-- zero. -/
theorem c50 {t : Tag} {b : List UInt8} {h : H} {Q : QQ} (hq : Q (.bool (zeroB b)) h) : AC mx 50 [.lst t 1 (ofStr b)] h Q := by
  refine k50 mx _ ?_
  unfold sh50
  refine ⟨by decide, c74 mx ?_⟩
  rw [onC_I, lenL_lst, ofStr_len]
  have : cmpI .eql (cnt0 b : Int) (b.length : Int) = zeroB b := by
    unfold zeroB
    by_cases hz : ∀ c ∈ b, c = 0
    · rw [eql_t (cnt0_all.2 hz), decide_eq_true hz]
    · rw [eql_f (fun e => hz (cnt0_all.1 e)), decide_eq_false hz]
  rw [this]; exact hq

/-! What is done to a disk, one by one, till the power is gone. -/
inductive Cmd where
  | W (i : Nat) (b : List UInt8)
  | F
def Dk.step (D : Dk) : Cmd → Dk
  | .W i b => D.write i b
  | .F => D.flush
def Dk.exec (D : Dk) : List Cmd → Dk × Bool
  | [] => (D, false)
  | c :: cs => if D.burn.down then (D.step c, true) else (D.step c).exec cs
theorem exec_cons {D : Dk} {c : Cmd} {cs : List Cmd} : D.exec (c :: cs) = if D.burn.down then (D.step c, true) else (D.step c).exec cs := rfl
theorem exec_append {cs ds : List Cmd} : ∀ {D : Dk}, D.exec (cs ++ ds) = if (D.exec cs).2 then D.exec cs else (D.exec cs).1.exec ds := by
  induction cs with
  | nil => intro D; rfl
  | cons c cs ih =>
    intro D
    simp only [List.cons_append, Dk.exec]
    split
    · rfl
    · exact ih

def chunk (b : List UInt8) (i : Nat) : List UInt8 := (b.drop (i * 64)).take 64
theorem chunk_len (b : List UInt8) (i : Nat) : (chunk b i).length ≤ 64 := by simp [chunk]; omega
def layCmds (at_ gen : Nat) (b : List UInt8) : List Cmd := ((List.range (sizeOf' b.length - 1)).map fun i => Cmd.W (at_ + 1 + i) (chunk b i)) ++ [.F, .W at_ (firstB gen b), .F]

theorem write_lasts {D : Dk} {i : Nat} {b : List UInt8} : (D.write i b).lasts = D.lasts := by unfold Dk.write; split <;> rfl
theorem write_loose {D : Dk} {i : Nat} {b : List UInt8} : (D.write i b).loose.length ≤ D.loose.length + 1 := by unfold Dk.write; split <;> simp [Dk.burn]
theorem flush_lasts {D : Dk} : D.flush.lasts.length = D.lasts.length := by unfold Dk.flush; split <;> simp [Dk.burn, applyW_len]
theorem flush_loose {D : Dk} : D.flush.loose.length ≤ D.loose.length := by unfold Dk.flush; split <;> simp [Dk.burn]

theorem slice_mid {t : Tag} {b : List UInt8} {x y : Nat} {K : AV → Prop} (hxy : x ≤ y) (hy : y ≤ b.length) (hk : K (.lst .any 1 (ofStr ((b.take y).drop x)))) :
    sliceP 1 (.lst t 1 (ofStr b)) (some (.v (.int .i64 (x : Int)))) (some (.v (.int .i64 (y : Int)))) none K := by
  refine ⟨rfl, ?_⟩
  simp only [optI, ofStr_len]
  refine ⟨⟨by omega, by omega, by omega, by omega⟩, ?_⟩
  simp only [Int.toNat_natCast, ofStr_take, ofStr_drop]
  exact hk
theorem slice_from {t : Tag} {b : List UInt8} {x : Nat} {K : AV → Prop} (hx : x ≤ b.length) (hk : K (.lst (cutTag (some (.v (.int .i64 (x : Int)))) t) 1 (ofStr (b.drop x)))) :
    sliceP 1 (.lst t 1 (ofStr b)) (some (.v (.int .i64 (x : Int)))) none none K := by
  refine ⟨rfl, ?_⟩
  simp only [optI, ofStr_len]
  refine ⟨⟨by omega, by omega, by omega, by omega⟩, ?_⟩
  simp only [Int.toNat_natCast, ofStr_drop]
  exact hk
theorem slice_to {t : Tag} {b : List UInt8} {y : Nat} {K : AV → Prop} (hy : y ≤ b.length) (hk : K (.lst .any 1 (ofStr (b.take y)))) :
    sliceP 1 (.lst t 1 (ofStr b)) none (some (.v (.int .i64 (y : Int)))) none K := by
  refine ⟨rfl, ?_⟩
  simp only [optI, ofStr_len]
  refine ⟨⟨by omega, by omega, by omega, by omega⟩, ?_⟩
  simp only [Int.toNat_natCast, Int.toNat_zero, List.drop_zero, ofStr_take]
  exact hk
theorem slice_full {t : Tag} {b : List UInt8} {y : Nat} {K : AV → Prop} (hy : y ≤ b.length) (hk : K (.lst .full 1 (ofStr (b.take y)))) :
    sliceP 1 (.lst t 1 (ofStr b)) none (some (.v (.int .i64 (y : Int)))) (some (.v (.int .i64 (y : Int)))) K := by
  refine ⟨rfl, ?_⟩
  simp only [optI, ofStr_len]
  refine ⟨⟨by omega, by omega, by omega, by omega⟩, trivial, ?_⟩
  simp only [Int.toNat_natCast, Int.toNat_zero, List.drop_zero, ofStr_take]
  exact hk

/-- Lay: of an entry that fits. -/
theorem c62 {p : Nat} {D : Dk} {h : H} {ids : List Nat} {at_ end_ gen : Nat} {t : Tag} {b : List UInt8} {Q : QQ} (hd : DAt p D h ids) (hb : b.length ≤ 8192) (hg : gen ≤ 2147483647) (hend : end_ ≤ D.lasts.length) (hat : at_ ≤ end_) (hln : D.loose.length ≤ 100000000)
    (hfull : ¬ at_ + sizeOf' b.length ≤ end_ → Q (.tup [.int .i64 0, .int .i64 3]) h)
    (hq : at_ + sizeOf' b.length ≤ end_ → ∀ h' ids', DAt p (D.exec (layCmds at_ gen b)).1 h' ids' → Stay h h' ids ids' → Q (.tup (if (D.exec (layCmds at_ gen b)).2 then [.int .i64 0, .int .i64 4] else [.int .i64 ((at_ + sizeOf' b.length : Nat) : Int), .int .i64 0])) h') :
    AC mx 62 [.ptr (some (p, 0)), .int .i64 (at_ : Int), .int .i64 (end_ : Int), .int .i64 (gen : Int), .lst t 1 (ofStr b)] h Q := by
  refine k62 mx _ _ _ _ _ ?_
  unfold sh62
  have hok := dat_ok hd
  have hn1024 := hok.n
  have hsz : sizeOf' b.length = 1 + (b.length + 63) / 64 := rfl
  intro J hJ
  rw [lenL_lst, ofStr_len]
  refine ifB_f (gtr_f (by omega)) (ifB_f (lss_f (by omega)) (ifB_f (gtr_f (by omega)) ⟨rfl, rfl, rfl, rfl, rfl, hJ _ _ ?_⟩))
  rw [lss_f (by omega)]
  refine ifB_f rfl ?_
  rw [lenL_lst, ofStr_len]
  refine c49 mx (by omega) (by omega) ?_
  rw [onC_I, Int.toNat_natCast]
  refine c26 mx hd ?_
  rw [onC_I]
  have hmin : (if (D.lasts.length : Int) < end_ then (D.lasts.length : Int) else end_) = (end_ : Int) := by rw [if_neg (by omega)]
  rw [hmin, ar_sub (by omega) (by omega)]
  by_cases hfit : at_ + sizeOf' b.length ≤ end_
  · refine ifB_f (gtr_f (by omega)) ?_
    intro I hI
    generalize hS : sizeOf' b.length = S at hsz hfit hq hI ⊢
    -- the rest of the way, from a sector on
    have rest : ∀ n, 1 ≤ n → n ≤ S → ∀ h1 ids1 D1, DAt p D1 h1 ids1 → Stay h h1 ids ids1 → D1.lasts.length = D.lasts.length → D1.loose.length ≤ 100000000 + n →
        D1.exec (((List.range' (n - 1) (S - n)).map fun i => Cmd.W (at_ + 1 + i) (chunk b i)) ++ [.F, .W at_ (firstB gen b), .F]) = D.exec (layCmds at_ gen b) → I (n : Nat) h1 := by
      intro n hn1 hn
      obtain ⟨k, rfl⟩ := Nat.exists_eq_add_of_le hn
      clear hn
      induction k generalizing n with
      | zero =>
        intro h1 ids1 D1 hd1 s1 hl1 hlo1 hex
        refine hI _ _ (ifB_f (lss_f (by omega)) ?_)
        rw [show n + 0 - n = 0 by omega, List.range'_zero, List.map_nil, List.nil_append] at hex
        refine c52 mx hd1 fun h2 ids2 hd2 s2 => ?_
        have s02 := s1.trans s2
        rw [onC_I]
        by_cases hdn : D1.burn.down = true
        · rw [if_pos hdn]
          refine ifB_t (neq_t (by omega)) ?_
          have e : D.exec (layCmds at_ gen b) = (D1.flush, true) := by rw [← hex]; simp [Dk.exec, hdn, Dk.step]
          have := hq hfit h2 ids2 (by rw [e]; exact hd2) s02
          rwa [e] at this
        rw [if_neg hdn]
        refine ifB_f (neq_f rfl) ?_
        have e1 : D.exec (layCmds at_ gen b) = D1.flush.exec [.W at_ (firstB gen b), .F] := by rw [← hex, exec_cons, if_neg hdn]; rfl
        refine c73 mx (by omega) (by omega) fun t' => ?_
        have hl2 : D1.flush.lasts.length = D.lasts.length := flush_lasts.trans hl1
        have hlo2 := @flush_loose D1
        refine c51 mx hd2 (by omega) (by rw [firstB_len]; omega) (by omega) fun h3 ids3 hd3 s3 => ?_
        have s03 := s02.trans s3
        rw [onC_I]
        by_cases hdn2 : D1.flush.burn.down = true
        · rw [if_pos hdn2]
          refine ifB_t (neq_t (by omega)) ?_
          have e : D.exec (layCmds at_ gen b) = (D1.flush.write at_ (firstB gen b), true) := by rw [e1]; simp [Dk.exec, hdn2, Dk.step]
          have := hq hfit h3 ids3 (by rw [e]; exact hd3) s03
          rwa [e] at this
        rw [if_neg hdn2]
        refine ifB_f (neq_f rfl) ?_
        refine c52 mx hd3 fun h4 ids4 hd4 s4 => ?_
        have s04 := s03.trans s4
        rw [onC_I]
        by_cases hdn3 : (D1.flush.write at_ (firstB gen b)).burn.down = true
        · rw [if_pos hdn3]
          refine ifB_t (neq_t (by omega)) ?_
          have e : D.exec (layCmds at_ gen b) = ((D1.flush.write at_ (firstB gen b)).flush, true) := by rw [e1]; simp [Dk.exec, hdn2, hdn3, Dk.step]
          have := hq hfit h4 ids4 (by rw [e]; exact hd4) s04
          rwa [e] at this
        rw [if_neg hdn3]
        refine ifB_f (neq_f rfl) ?_
        have e : D.exec (layCmds at_ gen b) = ((D1.flush.write at_ (firstB gen b)).flush, false) := by rw [e1]; simp [Dk.exec, hdn2, hdn3, Dk.step]
        have := hq hfit h4 ids4 (by rw [e]; exact hd4) s04
        rw [e, if_neg (by simp)] at this
        rw [ar_add (by omega) (by omega)]
        rw [Int.natCast_add] at this
        exact this
      | succ k ih =>
        intro h1 ids1 D1 hd1 s1 hl1 hlo1 hex
        refine hI _ _ (ifB_t (lss_t (by omega)) ?_)
        rw [lenL_lst, ofStr_len]
        have ex : ar .mul .i64 (ar .sub .i64 (n : Int) 1) 64 = (((n - 1) * 64 : Nat) : Int) := by
          rw [ar_sub (by omega) (by omega), ar_mul (by omega) (by omega)]; omega
        have ey : (if (b.length : Int) < ar .mul .i64 (n : Int) 64 then (b.length : Int) else ar .mul .i64 (n : Int) 64) = ((min b.length (n * 64) : Nat) : Int) := by
          rw [ar_mul (by omega) (by omega)]; split <;> omega
        rw [ex, ey]
        refine slice_mid (by omega) (by omega) ?_
        have ec : (b.take (min b.length (n * 64))).drop ((n - 1) * 64) = chunk b (n - 1) := by
          unfold chunk
          rw [List.drop_take, List.take_eq_take_iff, List.length_drop]; omega
        rw [ec, ar_add (by omega) (by omega)]
        have ei : (at_ : Int) + (n : Int) = ((at_ + 1 + (n - 1) : Nat) : Int) := by omega
        rw [ei]
        rw [show n + (k + 1) - n = k + 1 by omega, List.range'_succ, List.map_cons, List.cons_append, exec_cons] at hex
        refine c51 mx hd1 (by omega) (chunk_len _ _) (by omega) fun h2 ids2 hd2 s2 => ?_
        have s02 := s1.trans s2
        rw [onC_I]
        by_cases hdn : D1.burn.down = true
        · rw [if_pos hdn]
          refine ifB_t (neq_t (by omega)) ?_
          rw [if_pos hdn] at hex
          have := hq hfit h2 ids2 (by rw [← hex]; exact hd2) s02
          rwa [← hex] at this
        rw [if_neg hdn]
        rw [if_neg hdn] at hex
        refine ifB_f (neq_f rfl) ⟨rfl, rfl, rfl, rfl, rfl, ?_⟩
        rw [ar_add (by omega) (by omega)]
        have hlo2 := @write_loose D1 (at_ + 1 + (n - 1)) (chunk b (n - 1))
        have e4 : n + (k + 1) = (n + 1) + k := by omega
        refine ih (n + 1) (by omega) (by rw [← e4]; exact hS) (by rw [← e4]; exact hsz) (by rw [← e4]; exact hfit) (by rw [← e4]; exact hq) (by rw [← e4]; exact hI) h2 ids2 _ hd2 s02 (by rw [write_lasts]; exact hl1) (by omega) ?_
        rw [show n + 1 + k - (n + 1) = k by omega, show n + 1 - 1 = n - 1 + 1 by omega]
        exact hex
    exact rest 1 (by omega) (by omega) h ids D hd (.refl _ _) rfl (by omega) (by rw [layCmds, hS, List.range_eq_range'])
  · refine ifB_t (gtr_t (by omega)) (hfull hfit)
end Go.AM

namespace Go.AM
open Go Go.Proofs
set_option maxRecDepth 20000
variable (mx : Int)

theorem dat_le {p : Nat} {D : Dk} {h h' : H} {ids : List Nat} (hd : DAt p D h ids) (hle : h.le h') : DAt p D h' ids := by
  obtain ⟨bl, t, e, hd⟩ := hd
  exact ⟨bl, t, e, dat1_le hd hle⟩

theorem step_le {h h1 h2 : H} {t t' : Tag} (hle : h.le h1) (hf : ∀ b ∈ tids t, h.free b) (s : TStep h1 t h2 t') : h.le h2 ∧ ∀ b ∈ tids t', h.free b := by
  refine ⟨⟨fun b o hb => by rw [s.m]; exact hle.1 b o hb, fun b e hb => s.ts b e (fun hx => ?_) (hle.2 b e hb)⟩, fun b hb => ?_⟩
  · have := (hf b hx).2; rw [hb] at this; cases this
  · rcases s.new b hb with h2 | h2
    · exact hf b h2
    · constructor
      · cases hx : h.m b with
        | none => rfl
        | some o => have := hle.1 b o hx; rw [h2.1] at this; cases this
      · cases hx : h.t b with
        | none => rfl
        | some o => have := hle.2 b o hx; rw [h2.2] at this; cases this

def bodyK (D : Dk) (at_ n : Nat) : List UInt8 := ((List.range n).map fun i => D.read (at_ + 1 + i)).flatten
def bodyOf (D : Dk) (at_ size : Nat) : List UInt8 := bodyK D at_ (sizeOf' size - 1)
def oneL (D : Dk) (at_ end_ gen : Nat) : Option (List UInt8) :=
  if at_ < D.lasts.length ∧ at_ < end_ then
    if numOf ((D.read at_).take 4) = gen ∧ sumN ((D.read at_).take 12) = numOf (((D.read at_).drop 12).take 4) then
      if numOf (((D.read at_).drop 4).take 4) ≤ 8192 ∧ at_ + sizeOf' (numOf (((D.read at_).drop 4).take 4)) ≤ end_ then
        if firstB gen ((bodyOf D at_ (numOf (((D.read at_).drop 4).take 4))).take (numOf (((D.read at_).drop 4).take 4))) = (D.read at_).take 16 ∧ zeroB ((D.read at_).drop 16) = true ∧ zeroB ((bodyOf D at_ (numOf (((D.read at_).drop 4).take 4))).drop (numOf (((D.read at_).drop 4).take 4))) = true then
          some ((bodyOf D at_ (numOf (((D.read at_).drop 4).take 4))).take (numOf (((D.read at_).drop 4).take 4)))
        else none
      else none
    else none
  else none

theorem bodyOf_len {D : Dk} (hok : DkOK D) {at_ size : Nat} (h : at_ + sizeOf' size ≤ D.lasts.length) : (bodyOf D at_ size).length = (sizeOf' size - 1) * 64 := by
  unfold bodyOf bodyK
  have key : ∀ k, k ≤ sizeOf' size - 1 → ((List.range k).map fun i => D.read (at_ + 1 + i)).flatten.length = k * 64 := by
    intro k
    induction k with
    | zero => intro _; rfl
    | succ k ih =>
      intro hk
      rw [List.range_succ, List.map_append, List.flatten_append, List.length_append, ih (by omega)]
      have : (([k].map fun i => D.read (at_ + 1 + i)).flatten).length = 64 := by
        simp only [List.map_cons, List.map_nil, List.flatten_cons, List.flatten_nil, List.append_nil]
        exact read_len hok (by unfold sizeOf' at *; omega)
      rw [this]; omega
  exact key _ (Nat.le_refl _)

/-- Equal, of two rows of bytes. -/
theorem bytesOK_ofStr (b : List UInt8) : bytesOK (ofStr b) := fun x hx => by
  simp only [ofStr, List.mem_map] at hx
  obtain ⟨c, _, rfl⟩ := hx
  exact ⟨c, rfl⟩
theorem c72 {t t' : Tag} {a b : List UInt8} {h : H} {Q : QQ} (hq : Q (.bool (decide (a = b))) h) : AC mx 72 [.lst t 1 (ofStr a), .lst t' 1 (ofStr b)] h Q := by
  refine k72 mx _ _ ?_
  unfold sh72
  refine rd_lst rfl ⟨bytesOK_ofStr a, rd_lst rfl ⟨bytesOK_ofStr b, ?_⟩⟩
  rw [strOf_ofStr, strOf_ofStr]
  have : cmpS .eql a b = decide (a = b) := by simp only [cmpS]; by_cases e : a = b <;> simp [e]
  rw [this]; exact hq

/-- one: the entry at a sector. -/
theorem c48 {p : Nat} {D : Dk} {h : H} {ids : List Nat} {at_ end_ gen : Nat} {Q : QQ} (hd : DAt p D h ids) (hend : end_ ≤ D.lasts.length) (hat : at_ ≤ 2000) (hg : gen ≤ 2147483647)
    (hs : ∀ b, oneL D at_ end_ gen = some b → b.length ≤ 8192 ∧ at_ + sizeOf' b.length ≤ end_ → Q (.tup [.lst .full 1 (ofStr b), .bool true]) h) (hn : oneL D at_ end_ gen = none → ∀ v, Q (.tup [v, .bool false]) h) :
    AC mx 48 [.ptr (some (p, 0)), .int .i64 (at_ : Int), .int .i64 (end_ : Int), .int .i64 (gen : Int)] h Q := by
  have hok := dat_ok hd
  have hn1024 := hok.n
  refine ACall.weaken (Q := fun v h' => h.le h' ∧ ((∃ b, oneL D at_ end_ gen = some b ∧ (b.length ≤ 8192 ∧ at_ + sizeOf' b.length ≤ end_) ∧ v = .tup [.lst .full 1 (ofStr b), .bool true]) ∨ (oneL D at_ end_ gen = none ∧ ∃ v', v = .tup [v', .bool false]))) ?_ (by
    rintro v h' ⟨h1, ⟨b, e, hb, rfl⟩ | ⟨e, v', rfl⟩⟩
    · exact ⟨h, h1, hs b e hb⟩
    · exact ⟨h, h1, hn e v'⟩)
  have none_ok : ∀ (v : AV) (h' : H), h.le h' → oneL D at_ end_ gen = none → h.le h' ∧ ((∃ b, oneL D at_ end_ gen = some b ∧ (b.length ≤ 8192 ∧ at_ + sizeOf' b.length ≤ end_) ∧ AV.tup [v, .bool false] = .tup [.lst .full 1 (ofStr b), .bool true]) ∨ (oneL D at_ end_ gen = none ∧ ∃ v', AV.tup [v, .bool false] = .tup [v', .bool false])) :=
    fun v h' h1 e => ⟨h1, .inr ⟨e, v, rfl⟩⟩
  refine k48 mx _ _ _ _ ?_
  unfold sh48
  by_cases hlt : at_ < D.lasts.length
  case neg =>
    have e : oneL D at_ end_ gen = none := by unfold oneL; rw [if_neg (by omega)]
    refine c43n mx hd (by omega) ?_
    rw [onT_OI]
    intro J hJ
    refine ifB_t (neq_t (by omega)) ?_
    repeat (refine ⟨rfl, ?_⟩)
    exact hJ _ _ (ifB_t rfl (none_ok _ _ h.le_refl e))
  refine c43 mx hd hlt fun t1 => ?_
  have hl64 := read_len hok hlt
  rw [onT_OI]
  intro J hJ
  refine ifB_f (neq_f rfl) ?_
  by_cases hae : at_ < end_
  case neg =>
    have e : oneL D at_ end_ gen = none := by unfold oneL; rw [if_neg (by omega)]
    refine ifB_t (geq_t (by omega)) ?_
    repeat (refine ⟨rfl, ?_⟩)
    exact hJ _ _ (ifB_t rfl (none_ok _ _ h.le_refl e))
  refine ifB_f (geq_f (by omega)) ?_
  have eu : oneL D at_ end_ gen = _ := rfl
  conv at eu => rhs; unfold oneL
  rw [if_pos ⟨hlt, hae⟩] at eu
  obtain ⟨hd4, hH⟩ : ∃ x, x = D.read at_ := ⟨_, rfl⟩
  rw [← hH] at hl64 eu hJ ⊢
  refine c44 mx (by omega) ?_
  rw [onC_I, wrap_nat_u32 (by omega)]
  by_cases hgen : numOf (hd4.take 4) = gen
  case neg =>
    rw [if_neg (fun h => hgen h.1)] at eu
    refine ifB_t (neq_t (by omega)) ?_
    repeat (refine ⟨rfl, ?_⟩)
    exact hJ _ _ (ifB_t rfl (none_ok _ _ h.le_refl eu))
  refine ifB_f (neq_f (by omega)) ?_
  refine slice_to (y := 12) (by omega) ?_
  refine slice_from (x := 12) (by omega) ?_
  refine c71 mx _ _ (by rw [List.length_take]; omega) ?_
  rw [onC_I, (sumOf_range _).1]
  refine c44 mx (by rw [List.length_drop]; omega) ?_
  rw [onC_I]
  repeat (refine ⟨rfl, ?_⟩)
  refine hJ _ _ ?_
  by_cases hsum : sumN (hd4.take 12) = numOf ((hd4.drop 12).take 4)
  case neg =>
    rw [if_neg (fun h => hsum h.2)] at eu
    exact ifB_t (neq_t (by omega)) (none_ok _ _ h.le_refl eu)
  rw [if_pos ⟨hgen, hsum⟩] at eu
  refine ifB_f (neq_f (by omega)) ?_
  clear hJ J
  refine slice_from (x := 4) (by omega) ?_
  refine c44 mx (by rw [List.length_drop]; omega) ?_
  rw [onC_I]
  intro J hJ
  have hszlt := numOf_lt ((hd4.drop 4).take 4)
  have hl4 : ((hd4.drop 4).take 4).length = 4 := by rw [List.length_take, List.length_drop]; omega
  rw [hl4] at hszlt
  generalize numOf ((hd4.drop 4).take 4) = size at eu hszlt hJ ⊢
  rw [wrap_i64 (by omega) (by omega)] at hJ ⊢
  by_cases h8 : size ≤ 8192
  case neg =>
    rw [if_neg (fun h => h8 h.1)] at eu
    refine ifB_t (gtr_t (by omega)) ?_
    repeat (refine ⟨rfl, ?_⟩)
    exact hJ _ _ (ifB_t rfl (none_ok _ _ h.le_refl eu))
  refine ifB_f (gtr_f (by omega)) ?_
  refine c49 mx (by omega) (by omega) ?_
  rw [onC_I, Int.toNat_natCast]
  refine c26 mx hd ?_
  rw [onC_I]
  repeat (refine ⟨rfl, ?_⟩)
  refine hJ _ _ ?_
  have hmin : (if (D.lasts.length : Int) < end_ then (D.lasts.length : Int) else end_) = (end_ : Int) := by rw [if_neg (by omega)]
  rw [hmin, ar_sub (by omega) (by omega)]
  have hsz : sizeOf' size = 1 + (size + 63) / 64 := rfl
  by_cases hfit : at_ + sizeOf' size ≤ end_
  case neg =>
    rw [if_neg (fun h => hfit h.2)] at eu
    exact ifB_t (gtr_t (by omega)) (none_ok _ _ h.le_refl eu)
  rw [if_pos ⟨h8, hfit⟩] at eu
  refine ifB_f (gtr_f (by omega)) ?_
  clear hJ J
  intro I hI
  have hbl := bodyOf_len hok (at_ := at_) (size := size) (by omega)
  have main : ∀ n, n ≤ sizeOf' size - 1 → ∀ t h1, h.le h1 → TLive h1 t → (∀ b ∈ tids t, h.free b) → I (.lst t 1 (ofStr (bodyK D at_ n))) ((n + 1 : Nat) : Int) h1 := by
    refine downTo ?_ ?_
    · intro t h1 hle htl _
      have hd1 := dat_le hd hle
      refine hI _ _ _ ?_
      refine c49 mx (by omega) (by omega) ?_
      rw [onC_I, Int.toNat_natCast]
      refine ifB_f (lss_f (by omega)) ?_
      rw [show bodyK D at_ (sizeOf' size - 1) = bodyOf D at_ size from rfl]
      generalize bodyOf D at_ size = body at eu hbl ⊢
      refine slice_from (x := size) (by omega) ?_
      refine slice_full (y := size) (by omega) ?_
      refine slice_to (y := 16) (by omega) ?_
      refine c73 mx (by omega) (by rw [List.length_take]; omega) fun t2 => ?_
      refine c72 mx ?_
      rw [onC_B]
      by_cases hf : firstB gen (body.take size) = hd4.take 16
      case neg =>
        rw [if_neg (fun h => hf h.1)] at eu
        exact ifB_f (by simp [hf]) (none_ok _ _ hle eu)
      refine ifB_t (by simp [hf]) ?_
      refine slice_from (x := 16) (by omega) ?_
      refine c50 mx ?_
      rw [onC_B]
      by_cases hz : zeroB (hd4.drop 16) = true
      case neg =>
        rw [if_neg (fun h => hz h.2.1)] at eu
        exact ifB_f (by simpa using hz) (none_ok _ _ hle eu)
      refine ifB_t hz ?_
      refine c50 mx ?_
      rw [onC_B]
      by_cases hz2 : zeroB (body.drop size) = true
      case neg =>
        rw [if_neg (fun h => hz2 h.2.2)] at eu
        have e2 : zeroB (body.drop size) = false := by simpa using hz2
        rw [e2]
        exact none_ok _ _ hle eu
      rw [if_pos ⟨hf, hz, hz2⟩] at eu
      rw [hz2]
      have hbt : (body.take size).length = size := by rw [List.length_take]; omega
      exact ⟨hle, .inl ⟨_, eu, by rw [hbt]; exact ⟨h8, hfit⟩, rfl⟩⟩
    · intro n hn ih t h1 hle htl hfr
      have hd1 := dat_le hd hle
      refine hI _ _ _ ?_
      refine c49 mx (by omega) (by omega) ?_
      rw [onC_I, Int.toNat_natCast]
      refine ifB_t (lss_t (by omega)) ?_
      rw [ar_add (by omega) (by omega)]
      have ei : (at_ : Int) + ((n + 1 : Nat) : Int) = ((at_ + 1 + n : Nat) : Int) := by omega
      rw [ei]
      refine c43 mx hd1 (by omega) fun t2 => ?_
      rw [onT_OI]
      refine rd_lst rfl ?_
      have hrl := read_len hok (i := at_ + 1 + n) (by omega)
      have hfl : (bodyK D at_ n).length ≤ 100000 := by
        unfold bodyK
        have key : ∀ k, k ≤ n → ((List.range k).map fun i => D.read (at_ + 1 + i)).flatten.length ≤ k * 64 := by
          intro k
          induction k with
          | zero => intro _; simp
          | succ k ih2 =>
            intro hk
            rw [List.range_succ, List.map_append, List.flatten_append, List.length_append]
            have h2 := ih2 (by omega)
            have h3 := read_len hok (i := at_ + 1 + k) (by omega)
            simp only [List.map_cons, List.map_nil, List.flatten_cons, List.flatten_nil, List.append_nil]
            omega
        have := key n (Nat.le_refl _)
        omega
      refine ap_intro rfl (by decide) ofStr_ok (by rw [ofStr_len, ofStr_len]; show (_ + _) * 1 ≤ _; omega) htl fun t3 h3 s3 => ?_
      repeat (refine ⟨rfl, ?_⟩)
      rw [← ofStr_append, ar_add (by omega) (by omega)]
      have e5 : bodyK D at_ n ++ D.read (at_ + 1 + n) = bodyK D at_ (n + 1) := by
        unfold bodyK
        rw [List.range_succ, List.map_append, List.flatten_append]; simp
      rw [e5]
      obtain ⟨k1, k2⟩ := step_le hle hfr s3
      exact ih t3 h3 k1 s3.live k2
  have := main 0 (by omega) .full h h.le_refl trivial (by simp [tids])
  exact this
end Go.AM

namespace Go.AM
open Go Go.Proofs
set_option maxRecDepth 20000
variable (mx : Int)

def scanF (D : Dk) (end_ gen : Nat) : Nat → Nat → List (List UInt8) × Nat
  | 0, at_ => ([], at_)
  | k + 1, at_ => match oneL D at_ end_ gen with
    | none => ([], at_)
    | some b => (b :: (scanF D end_ gen k (at_ + sizeOf' b.length)).1, (scanF D end_ gen k (at_ + sizeOf' b.length)).2)
def scanL (D : Dk) (at_ end_ gen : Nat) : List (List UInt8) × Nat := scanF D end_ gen (end_ + 1) at_
def bAV (b : List UInt8) : AV := .lst .full 1 (ofStr b)

theorem sizeOf_pos (n : Nat) : 1 ≤ sizeOf' n := by unfold sizeOf'; omega

/-- Scan. -/
theorem c30 {p : Nat} {D : Dk} {h : H} {ids : List Nat} {at_ end_ gen : Nat} {Q : QQ} (hd : DAt p D h ids) (hend : end_ ≤ D.lasts.length) (hat : at_ ≤ end_) (hg : gen ≤ 2147483647)
    (hq : ∀ t, Q (.tup [.lst t 1 ((scanL D at_ end_ gen).1.map bAV), .int .i64 ((scanL D at_ end_ gen).2 : Int)]) h) :
    AC mx 30 [.ptr (some (p, 0)), .int .i64 (at_ : Int), .int .i64 (end_ : Int), .int .i64 (gen : Int)] h Q := by
  have hok := dat_ok hd
  have hn1024 := hok.n
  refine ACall.weaken (Q := fun v h' => h.le h' ∧ ∃ t, v = .tup [.lst t 1 ((scanL D at_ end_ gen).1.map bAV), .int .i64 ((scanL D at_ end_ gen).2 : Int)]) ?_ (by rintro v h' ⟨h1, t, rfl⟩; exact ⟨h, h1, hq t⟩)
  refine k30 mx _ _ _ _ ?_
  unfold sh30
  intro I hI
  have main : ∀ k at1 acc t h1, h.le h1 → TLive h1 t → (∀ b ∈ tids t, h.free b) → end_ + 1 ≤ at1 + k → at1 ≤ end_ → acc.length ≤ at1 →
      (acc ++ (scanF D end_ gen k at1).1, (scanF D end_ gen k at1).2) = scanL D at_ end_ gen → I (at1 : Nat) (.lst t 1 (acc.map bAV)) h1 := by
    intro k
    induction k with
    | zero => intro at1 acc t h1 _ _ _ h2 h3; omega
    | succ k ih =>
      intro at1 acc t h1 hle htl hfr hk1 hk2 hacc heq
      have hd1 := dat_le hd hle
      refine hI _ _ _ ?_
      refine c48 mx hd1 hend (by omega) hg (fun b hb hbn => ?_) (fun hn v => ?_)
      · rw [onT_OB]
        refine ifB_f rfl (oneP_intro rfl ⟨by decide, ?_⟩)
        have hp := sizeOf_pos b.length
        refine ap_intro rfl (by decide) ?_ ?_ htl fun t2 h2 s2 => ?_
        · intro y hy; simp only [List.mem_singleton] at hy; subst hy; exact ⟨rfl, fun c hc => by simp [AV.cells] at hc; subst hc; rfl⟩
        · rw [List.length_map]; show (acc.length + 1) * 24 ≤ _; omega
        · rw [lenL_lst, ofStr_len]
          refine c49 mx (by omega) (by omega) ?_
          rw [onC_I, Int.toNat_natCast]
          refine ⟨rfl, rfl, rfl, ?_⟩
          have hsz : sizeOf' b.length = 1 + (b.length + 63) / 64 := rfl
          rw [ar_add (by omega) (by omega), ← Int.natCast_add]
          obtain ⟨k1, k2⟩ := step_le hle hfr s2
          have e : acc.map bAV ++ [AV.lst .full 1 (ofStr b)] = (acc ++ [b]).map bAV := by rw [List.map_append]; rfl
          rw [e]
          refine ih _ _ t2 h2 k1 s2.live k2 (by omega) hbn.2 (by rw [List.length_append]; simp; omega) ?_
          rw [← heq]
          simp only [scanF, hb, List.append_assoc, List.singleton_append]
      · rw [onT_OB]
        refine ifB_t rfl ⟨hle, t, ?_⟩
        rw [← heq]
        simp only [scanF, hn, List.append_nil]
  exact main (end_ + 1) at_ [] .full h h.le_refl trivial (by simp [tids]) (by omega) hat (by simp) rfl

theorem readL_append (l : List (Nat × List UInt8)) (i : Nat) (d : List UInt8) (w : Nat × List UInt8) : readL (l ++ [w]) i d = if w.1 = i then w.2 else readL l i d := by
  unfold readL; rw [List.foldl_append]; rfl
theorem read_write {D : Dk} {i j : Nat} {b : List UInt8} (hne : i ≠ j) : (D.write i b).read j = D.read j := by
  unfold Dk.write
  split
  · rfl
  · unfold Dk.read; simp only [readL_append]; rw [if_neg hne]; rfl

def dirty (D : Dk) (n end_ : Nat) : List Nat := (List.range' n (end_ - n)).filter fun i => !zeroB (D.read i)
def restC (D : Dk) (n end_ : Nat) (some : Bool) : List Cmd := (dirty D n end_).map (fun i => Cmd.W i []) ++ (if some || !(dirty D n end_).isEmpty then [.F] else [])
def cleanCmds (D : Dk) (at_ end_ : Nat) : List Cmd := restC D at_ end_ false

theorem dirty_succ {D : Dk} {n end_ : Nat} (h : n < end_) : dirty D n end_ = if zeroB (D.read n) then dirty D (n + 1) end_ else n :: dirty D (n + 1) end_ := by
  unfold dirty
  rw [show end_ - n = (end_ - (n + 1)) + 1 by omega, List.range'_succ, List.filter_cons]
  cases zeroB (D.read n) <;> simp
theorem dirty_congr {D D' : Dk} {n end_ : Nat} (h : ∀ i, n ≤ i → D'.read i = D.read i) : dirty D' n end_ = dirty D n end_ := by
  unfold dirty
  refine List.filter_congr fun i hi => ?_
  rw [h i (by simp at hi; exact hi.1)]

/-- Clean. -/
theorem c31 {p : Nat} {D : Dk} {h : H} {ids : List Nat} {at_ end_ : Nat} {Q : QQ} (hd : DAt p D h ids) (hend : end_ ≤ D.lasts.length) (hat : at_ ≤ end_) (hln : D.loose.length ≤ 100000000)
    (hq : ∀ h' ids', DAt p (D.exec (cleanCmds D at_ end_)).1 h' ids' → Stay h h' ids ids' → Q (.int .i64 (if (D.exec (cleanCmds D at_ end_)).2 then 4 else 0)) h') :
    AC mx 31 [.ptr (some (p, 0)), .int .i64 (at_ : Int), .int .i64 (end_ : Int)] h Q := by
  have hok := dat_ok hd
  have hn1024 := hok.n
  refine k31 mx _ _ _ ?_
  unfold sh31
  intro I hI
  have e0 : (if (0 : Int) > at_ then (0 : Int) else at_) = (at_ : Int) := by rw [if_neg (by omega)]
  rw [e0]
  have main : ∀ n, n ≤ end_ → at_ ≤ n → ∀ h1 ids1 D1 sm, DAt p D1 h1 ids1 → Stay h h1 ids ids1 → D1.lasts.length = D.lasts.length → D1.loose.length ≤ 100000000 + n → (∀ i, n ≤ i → D1.read i = D.read i) →
      D1.exec (restC D n end_ sm) = D.exec (cleanCmds D at_ end_) → I sm (n : Nat) h1 := by
    refine downTo ?_ ?_
    · intro _ h1 ids1 D1 sm hd1 s1 hl1 hlo1 hr1 hex
      refine hI _ _ _ (c26 mx hd1 ?_)
      have hmin : (if (D1.lasts.length : Int) < end_ then (D1.lasts.length : Int) else end_) = (end_ : Int) := by rw [if_neg (by omega)]
      rw [onC_I, hmin]
      refine ifB_f (lss_f (by omega)) ?_
      have e1 : dirty D end_ end_ = [] := by unfold dirty; rw [Nat.sub_self]; rfl
      unfold restC at hex
      rw [e1, List.map_nil, List.nil_append] at hex
      cases sm with
      | false =>
        refine ifB_t rfl ?_
        have e2 : D.exec (cleanCmds D at_ end_) = (D1, false) := by rw [← hex]; rfl
        have := hq h1 ids1 (by rw [e2]; exact hd1) s1
        rwa [e2] at this
      | true =>
        refine ifB_f rfl ?_
        have e2 : D.exec (cleanCmds D at_ end_) = if D1.burn.down then (D1.flush, true) else (D1.flush, false) := by rw [← hex]; rfl
        refine c52 mx hd1 fun h2 ids2 hd2 s2 => ?_
        rw [onC_I]
        have e3 : (D.exec (cleanCmds D at_ end_)).1 = D1.flush := by rw [e2]; split <;> rfl
        have e4 : (D.exec (cleanCmds D at_ end_)).2 = D1.burn.down := by rw [e2]; cases D1.burn.down <;> rfl
        have := hq h2 ids2 (by rw [e3]; exact hd2) (s1.trans s2)
        rwa [e4] at this
    · intro n hn ih hatn h1 ids1 D1 sm hd1 s1 hl1 hlo1 hr1 hex
      refine hI _ _ _ (c26 mx hd1 ?_)
      have hmin : (if (D1.lasts.length : Int) < end_ then (D1.lasts.length : Int) else end_) = (end_ : Int) := by rw [if_neg (by omega)]
      rw [onC_I, hmin]
      refine ifB_t (lss_t (by omega)) ?_
      intro J hJ
      have next : ∀ h2 ids2 D2 sm2, DAt p D2 h2 ids2 → Stay h h2 ids ids2 → D2.lasts.length = D.lasts.length → D2.loose.length ≤ 100000000 + (n + 1) → (∀ i, n + 1 ≤ i → D2.read i = D.read i) →
          D2.exec (restC D (n + 1) end_ sm2) = D.exec (cleanCmds D at_ end_) → J sm2 h2 := by
        intro h2 ids2 D2 sm2 a1 a2 a3 a4 a5 a6
        refine hJ _ _ ⟨rfl, rfl, ?_⟩
        rw [ar_add (by omega) (by omega)]
        exact ih (by omega) h2 ids2 D2 sm2 a1 a2 a3 a4 a5 a6
      refine c43 mx hd1 (by omega) fun t1 => ?_
      rw [onT_OI]
      refine c50 mx ?_
      rw [onC_B, hr1 n (Nat.le_refl _)]
      have hds := dirty_succ (D := D) hn
      cases hz : zeroB (D.read n) with
      | true =>
        rw [hz, if_pos rfl] at hds
        refine ifB_f rfl ⟨rfl, rfl, rfl, next h1 ids1 D1 sm hd1 s1 hl1 (by omega) (fun i hi => hr1 i (by omega)) ?_⟩
        rw [← hex]; unfold restC; rw [hds]
      | false =>
        rw [hz, if_neg (by simp)] at hds
        refine ifB_t rfl ?_
        have hex2 : (if D1.burn.down then (D1.write n [], true) else (D1.write n []).exec (restC D (n + 1) end_ true)) = D.exec (cleanCmds D at_ end_) := by
          rw [← hex]; unfold restC; rw [hds, List.map_cons, List.cons_append, exec_cons]
          simp [Dk.step]
        refine c51 mx (b := []) hd1 (by omega) (by simp) (by omega) fun h2 ids2 hd2 s2 => ?_
        rw [onC_I]
        have hlo2 := @write_loose D1 n []
        by_cases hdn : D1.burn.down = true
        · rw [if_pos hdn]
          refine ifB_t (neq_t (by omega)) ?_
          rw [if_pos hdn] at hex2
          have := hq h2 ids2 (by rw [← hex2]; exact hd2) (s1.trans s2)
          rwa [← hex2] at this
        · rw [if_neg hdn]
          rw [if_neg hdn] at hex2
          exact ifB_f (neq_f rfl) ⟨rfl, rfl, rfl, next h2 ids2 _ true hd2 (s1.trans s2) (by rw [write_lasts]; exact hl1) (by omega) (fun i hi => by rw [read_write (by omega)]; exact hr1 i (by omega)) hex2⟩
  exact main at_ hat (Nat.le_refl _) h ids D false hd (.refl _ _) rfl (by omega) (fun _ _ => rfl) rfl
end Go.AM

namespace Go.AM
open Go Go.Proofs
set_option maxRecDepth 20000
variable (mx : Int)

def half (n : Nat) : Nat := (n - 2) / 2
def lo (n gen : Nat) : Nat := 2 + gen % 2 * half n
def hi (n gen : Nat) : Nat := lo n gen + half n
theorem hi_le {n gen : Nat} (h : 2 ≤ n) : hi n gen ≤ n ∧ 2 ≤ lo n gen ∧ lo n gen ≤ hi n gen := by
  unfold hi lo half
  rcases Nat.mod_two_eq_zero_or_one gen with e | e <;> rw [e] <;> omega

theorem rem2 (n : Nat) (h : n < 9223372036854775808) : ar .rem .i64 (n : Int) 2 = ((n % 2 : Nat) : Int) := by
  show Int.tmod (n : Int) 2 = _
  rw [Int.tmod_eq_emod_of_nonneg (by omega)]; omega

/-- bounds. -/
theorem c29 {p : Nat} {D : Dk} {h : H} {ids : List Nat} {gen : Nat} {Q : QQ} (hd : DAt p D h ids) (hn : 2 ≤ D.lasts.length) (hg : gen ≤ 4294967296) (hq : Q (.tup [.int .i64 (lo D.lasts.length gen : Int), .int .i64 (hi D.lasts.length gen : Int)]) h) :
    AC mx 29 [.ptr (some (p, 0)), .int .i64 (gen : Int)] h Q := by
  have hn1024 := (dat_ok hd).n
  refine k29 mx _ _ ?_
  unfold sh29
  refine c26 mx hd ?_
  rw [onC_I]
  refine ⟨by omega, by omega, ?_⟩
  have eq : ar .quo .i64 (ar .sub .i64 (D.lasts.length : Int) 2) 2 = (half D.lasts.length : Nat) := by
    rw [ar_sub (by omega) (by omega)]
    show IntKind.wrap .i64 (Int.tdiv _ 2) = _
    rw [Int.tdiv_eq_ediv_of_nonneg (by omega), wrap_i64 (by omega) (by omega)]
    unfold half; omega
  have hh : half D.lasts.length ≤ 1024 := by unfold half; omega
  rw [rem2 gen (by omega), eq]
  have hm := Nat.mod_two_eq_zero_or_one gen
  have el : ar .add .i64 2 (ar .mul .i64 ((gen % 2 : Nat) : Int) (half D.lasts.length : Nat)) = (lo D.lasts.length gen : Int) := by
    unfold lo
    rcases hm with e | e <;> rw [e]
    · rw [ar_mul (by simp) (by simp), ar_add (by simp) (by simp)]; simp
    · rw [ar_mul (by omega) (by omega), ar_add (by omega) (by omega)]; omega
  have hlo : lo D.lasts.length gen ≤ 2000 := by unfold lo; rcases hm with e | e <;> rw [e] <;> omega
  rw [el, ar_add (by omega) (by omega)]
  have eh : (lo D.lasts.length gen : Int) + (half D.lasts.length : Nat) = (hi D.lasts.length gen : Int) := by unfold hi; omega
  rw [eh]; exact hq

def superB (gen : Nat) : List UInt8 := be4 gen ++ be4 (sumN (be4 gen))
theorem superB_len (gen : Nat) : (superB gen).length = 8 := rfl

/-- super. -/
theorem c45 {gen : Nat} {h : H} {Q : QQ} (hg : gen < 4294967296) (hq : ∀ t, Q (.lst t 1 (ofStr (superB gen))) h) : AC mx 45 [.int .i64 (gen : Int)] h Q := by
  refine ACall.weaken (Q := fun v h' => h.le h' ∧ ∃ t, v = .lst t 1 (ofStr (superB gen))) ?_ (by rintro v h' ⟨h1, t, rfl⟩; exact ⟨h, h1, hq t⟩)
  refine k45 mx _ ?_
  unfold sh45
  rw [wrap_nat_u32 hg]
  refine c70 mx (t := .full) (b := []) trivial (by simp) fun t1 h1 s1 => ?_
  refine c71 mx _ _ (by simp [be4_len]) ?_
  rw [onC_I, (sumOf_range _).1]
  refine c70 mx s1.live (by simp [be4_len]) fun t2 h2 s2 => ?_
  exact ⟨(s1.trans s2).le, t2, by simp only [List.nil_append]; rfl⟩

/-- plain. -/
theorem c46 {t : Tag} {b : List UInt8} {h : H} {Q : QQ} (hl : b.length < 9223372036854775000) (hq : Q (.bool (zeroB b)) h) : AC mx 46 [.lst t 1 (ofStr b)] h Q := by
  refine k46 mx _ ?_
  unfold sh46
  rw [lenL_lst, ofStr_len]
  intro I hI
  have main : ∀ n, n ≤ b.length → (∀ c ∈ b.take n, c = 0) → I (n : Nat) h := by
    refine downTo ?_ ?_
    · intro hz
      refine hI _ _ (ifB_f (lss_f (by omega)) ?_)
      rw [List.take_length] at hz
      have : zeroB b = true := decide_eq_true hz
      rwa [← this]
    · intro n hn ih hz
      refine hI _ _ (ifB_t (lss_t (by omega)) ?_)
      refine idxP_lstN (by rw [ofStr_len]; omega) ?_
      refine ld1_elp (ofStr_get hn) rfl ?_
      rw [onC_I]
      by_cases h0 : b[n] = 0
      · refine ifB_f (neq_f (by rw [h0]; rfl)) ⟨rfl, rfl, ?_⟩
        rw [ar_add (by omega) (by omega)]
        refine ih fun c hc => ?_
        rw [List.take_add_one, List.getElem?_eq_getElem hn] at hc
        simp only [Option.toList_some, List.mem_append, List.mem_singleton] at hc
        rcases hc with hc | rfl
        · exact hz c hc
        · exact h0
      · refine ifB_t (neq_t fun e => h0 ?_) ?_
        · have : b[n].toNat = 0 := by omega
          exact UInt8.toNat_inj.1 this
        · have : zeroB b = false := decide_eq_false fun hall => h0 (hall _ (List.getElem_mem hn))
          rwa [← this]
  exact main 0 (by omega) (by simp)

def instCmds (gen : Nat) : List Cmd := [.W (gen % 2) (superB gen), .F]

/-- install. -/
theorem c47 {p : Nat} {D : Dk} {h : H} {ids : List Nat} {gen : Nat} {Q : QQ} (hd : DAt p D h ids) (hn : 2 ≤ D.lasts.length) (hg : gen < 4294967296) (hln : D.loose.length ≤ 100000000)
    (hq : ∀ h' ids', DAt p (D.exec (instCmds gen)).1 h' ids' → Stay h h' ids ids' → Q (.int .i64 (if (D.exec (instCmds gen)).2 then 4 else 0)) h') : AC mx 47 [.ptr (some (p, 0)), .int .i64 (gen : Int)] h Q := by
  refine k47 mx _ _ ?_
  unfold sh47
  refine ⟨by omega, c45 mx hg fun t => ?_⟩
  rw [rem2 gen (by omega)]
  refine c51 mx hd (by omega) (by rw [superB_len]; omega) (by omega) fun h1 ids1 hd1 s1 => ?_
  rw [onC_I]
  by_cases hdn : D.burn.down = true
  · rw [if_pos hdn]
    refine ifB_t (neq_t (by omega)) ?_
    have e : D.exec (instCmds gen) = (D.write (gen % 2) (superB gen), true) := by unfold instCmds; rw [exec_cons, if_pos hdn]; rfl
    have := hq h1 ids1 (by rw [e]; exact hd1) s1
    rwa [e] at this
  rw [if_neg hdn]
  refine ifB_f (neq_f rfl) ?_
  refine c52 mx hd1 fun h2 ids2 hd2 s2 => ?_
  rw [onC_I]
  have e : D.exec (instCmds gen) = ((D.write (gen % 2) (superB gen)).flush, (D.write (gen % 2) (superB gen)).burn.down) := by
    unfold instCmds; rw [exec_cons, if_neg hdn, exec_cons]
    show (if (D.write (gen % 2) (superB gen)).burn.down = true then _ else _) = _
    cases (D.write (gen % 2) (superB gen)).burn.down <;> rfl
  have := hq h2 ids2 (by rw [e]; exact hd2) (s1.trans s2)
  rwa [e] at this

theorem exec_lasts : ∀ {cs : List Cmd} {D : Dk}, (D.exec cs).1.lasts.length = D.lasts.length := by
  intro cs
  induction cs with
  | nil => intro D; rfl
  | cons c cs ih =>
    intro D
    have hs : (D.step c).lasts.length = D.lasts.length := by cases c <;> simp only [Dk.step, write_lasts, flush_lasts]
    rw [exec_cons]
    split
    · exact hs
    · exact ih.trans hs
/-- Where the last thing was to flush, and there was power, nothing is loose. -/
theorem exec_flushed {cs : List Cmd} {D : Dk} (h : (D.exec (cs ++ [.F])).2 = false) : (D.exec (cs ++ [.F])).1.loose = [] := by
  rw [exec_append] at h ⊢
  split at h
  · rename_i h1; rw [h1] at h; cases h
  · rename_i h1
    rw [if_neg h1]
    generalize (D.exec cs).1 = D' at h ⊢
    rw [exec_cons] at h ⊢
    split at h
    · cases h
    · rename_i h2
      rw [if_neg h2]
      show (D'.flush).loose = []
      unfold Dk.flush
      rw [if_neg h2]
theorem exec_loose_le : ∀ {cs : List Cmd} {D : Dk}, (D.exec cs).1.loose.length ≤ D.loose.length + cs.length := by
  intro cs
  induction cs with
  | nil => intro D; exact Nat.le_refl _
  | cons c cs ih =>
    intro D
    have hs : (D.step c).loose.length ≤ D.loose.length + 1 := by
      cases c with
      | W i b => exact write_loose
      | F => have := @flush_loose D; simp only [Dk.step]; omega
    rw [exec_cons]
    split
    · show (D.step c).loose.length ≤ _; rw [List.length_cons]; omega
    · have := @ih (D.step c); rw [List.length_cons]; omega
theorem clean_len (D : Dk) (a e : Nat) : (cleanCmds D a e).length ≤ e + 1 := by
  unfold cleanCmds restC dirty
  have := List.length_filter_le (fun i => !zeroB (D.read i)) (List.range' a (e - a))
  rw [List.length_range'] at this
  rw [List.length_append, List.length_map]
  split <;> simp <;> omega

def formatCmds (D : Dk) : List Cmd := cleanCmds D (lo D.lasts.length 1) (hi D.lasts.length 1) ++ instCmds 1

/-- format. -/
theorem c28 {p : Nat} {D : Dk} {h : H} {ids : List Nat} {Q : QQ} (hd : DAt p D h ids) (hn : 2 ≤ D.lasts.length) (hln : D.loose.length ≤ 10000000)
    (hq : ∀ h' ids', DAt p (D.exec (formatCmds D)).1 h' ids' → Stay h h' ids ids' → Q (.int .i64 (if (D.exec (formatCmds D)).2 then 4 else 0)) h') : AC mx 28 [.ptr (some (p, 0))] h Q := by
  have hn1024 := (dat_ok hd).n
  refine k28 mx _ ?_
  unfold sh28
  obtain ⟨b1, b2, b3⟩ := @hi_le D.lasts.length 1 hn
  refine c29 mx (gen := 1) hd hn (by omega) ?_
  rw [onT_II]
  refine c31 mx hd b1 b3 (by omega) fun h1 ids1 hd1 s1 => ?_
  rw [onC_I]
  have hx : D.exec (formatCmds D) = if (D.exec (cleanCmds D (lo D.lasts.length 1) (hi D.lasts.length 1))).2 then D.exec (cleanCmds D (lo D.lasts.length 1) (hi D.lasts.length 1)) else (D.exec (cleanCmds D (lo D.lasts.length 1) (hi D.lasts.length 1))).1.exec (instCmds 1) := exec_append
  have hcl := clean_len D (lo D.lasts.length 1) (hi D.lasts.length 1)
  have hll := @exec_loose_le (cleanCmds D (lo D.lasts.length 1) (hi D.lasts.length 1)) D
  have hlt := @exec_lasts (cleanCmds D (lo D.lasts.length 1) (hi D.lasts.length 1)) D
  generalize D.exec (cleanCmds D (lo D.lasts.length 1) (hi D.lasts.length 1)) = r at hx hd1 hll hlt ⊢
  obtain ⟨D1, dn⟩ := r
  cases dn with
  | true =>
    refine ifB_t (neq_t (by simp)) ?_
    rw [if_pos rfl] at hx
    have := hq h1 ids1 (by rw [hx]; exact hd1) s1
    rwa [hx] at this
  | false =>
    rw [if_neg (by simp)] at hx
    refine ifB_f (neq_f rfl) ?_
    simp only at hd1 hll hlt
    refine c47 mx (gen := 1) hd1 (by omega) (by omega) (by omega) fun h2 ids2 hd2 s2 => ?_
    rw [onC_I]
    have := hq h2 ids2 (by rw [hx]; exact hd2) (s1.trans s2)
    rwa [hx] at this
end Go.AM

namespace Go.AM
open Go Go.Proofs
set_option maxRecDepth 20000
variable (mx : Int)

def cand (D : Dk) (n : Nat) : Nat :=
  if (1 ≤ numOf ((D.read n).take 4) ∧ numOf ((D.read n).take 4) ≤ 2147483647 ∧ numOf ((D.read n).take 4) % 2 = n) ∧ superB (numOf ((D.read n).take 4)) = (D.read n).take 8 ∧ zeroB ((D.read n).drop 8) = true then numOf ((D.read n).take 4) else 0
def newest (D : Dk) : Nat := max (cand D 0) (cand D 1)

theorem cmpS_eql (a b : List UInt8) : cmpS .eql a b = decide (a = b) := by simp only [cmpS]; by_cases e : a = b <;> simp [e]

/-- newestGen. -/
theorem c27 {p : Nat} {D : Dk} {h : H} {ids : List Nat} {Q : QQ} (hd : DAt p D h ids) (hn : 2 ≤ D.lasts.length) (hq : Q (.int .i64 (newest D : Int)) h) : AC mx 27 [.ptr (some (p, 0))] h Q := by
  have hok := dat_ok hd
  refine k27 mx _ ?_
  unfold sh27
  intro I hI
  have round : ∀ (best n : Nat), n < 2 → best ≤ 2147483647 → I ((max best (cand D n) : Nat) : Int) ((n + 1 : Nat) : Int) h → I (best : Int) (n : Int) h := by
    intro best n hn2 hbest hnext
    refine hI _ _ _ (ifB_t (lss_t (by omega)) ?_)
    intro J hJ
    have next : ∀ b' : Nat, b' = max best (cand D n) → J (b' : Int) h := by
      rintro b' rfl
      refine hJ _ _ ⟨rfl, ?_⟩
      rw [ar_add (by omega) (by omega)]
      exact hnext
    clear hJ
    refine c43 mx hd (by omega) fun t1 => ?_
    have hl64 := read_len hok (i := n) (by omega)
    have ec : cand D n = _ := rfl
    conv at ec => rhs; unfold cand
    obtain ⟨b, hb⟩ : ∃ x, x = D.read n := ⟨_, rfl⟩
    rw [← hb] at hl64 ec ⊢
    rw [onT_OI]
    refine c44 mx (by omega) ?_
    rw [onC_I]
    have hg := numOf_lt (b.take 4)
    rw [show (b.take 4).length = 4 by rw [List.length_take]; omega] at hg
    obtain ⟨g, hge⟩ : ∃ x, x = numOf (b.take 4) := ⟨_, rfl⟩
    rw [← hge] at hg ec ⊢
    rw [wrap_i64 (by omega) (by omega)]
    have skip : ¬ (1 ≤ g ∧ g ≤ 2147483647 ∧ g % 2 = n) → J (best : Int) h := fun hno => by
      rw [if_neg (fun h => hno h.1)] at ec
      exact next best (by omega)
    by_cases h1 : 1 ≤ g
    case neg => exact ifB_t (lss_t (by omega)) ⟨rfl, rfl, skip (by omega)⟩
    refine ifB_f (lss_f (by omega)) ?_
    by_cases h2 : g ≤ 2147483647
    case neg => exact ifB_t (gtr_t (by omega)) ⟨rfl, rfl, skip (by omega)⟩
    refine ifB_f (gtr_f (by omega)) ⟨by omega, ?_⟩
    rw [rem2 g (by omega)]
    by_cases h3 : g % 2 = n
    case neg => exact ifB_t (neq_t (by omega)) ⟨rfl, rfl, skip (by omega)⟩
    refine ifB_f (neq_f (by omega)) ?_
    refine c45 mx (by omega) fun t2 => ?_
    intro J2 hJ2
    have yes : superB g = b.take 8 → zeroB (b.drop 8) = true → ∀ v1 v2 v3 v4 v5, J2 v1 v2 v3 v4 v5 true h := fun e1 e2 v1 v2 v3 v4 v5 => by
      refine hJ2 _ _ _ _ _ _ _ (ifB_t rfl ⟨rfl, rfl, ?_⟩)
      rw [if_pos ⟨⟨h1, h2, h3⟩, e1, e2⟩] at ec
      have em : (if (g : Int) > (best : Int) then (g : Int) else (best : Int)) = ((max best g : Nat) : Int) := by split <;> omega
      rw [em]
      exact next _ (by rw [ec])
    have no : ¬ (superB g = b.take 8 ∧ zeroB (b.drop 8) = true) → ∀ v1 v2 v3 v4 v5, J2 v1 v2 v3 v4 v5 false h := fun e1 v1 v2 v3 v4 v5 => by
      refine hJ2 _ _ _ _ _ _ _ (ifB_f rfl ⟨rfl, rfl, ?_⟩)
      rw [if_neg (fun h => e1 h.2)] at ec
      exact next _ (by omega)
    rw [lenL_lst, ofStr_len, superB_len]
    refine slice_to (y := 8) (by omega) ?_
    have tail : ∀ (vn : Int), vn = 8 → sliceP 1 (.lst t1 1 (ofStr b)) (some (.v (.int .i64 vn))) none none fun v31 => AC mx 46 [v31] h fun r32 h33 => onC (.B) r32 fun (b34 : Bool) =>
        superB g = b.take 8 → ∀ v1 v2 v3 v4 v5, J2 v1 v2 v3 v4 v5 b34 h33 := by
      rintro vn rfl
      refine slice_from (x := 8) (by omega) ?_
      refine c46 mx (by rw [List.length_drop]; omega) ?_
      rw [onC_B]
      intro e1
      cases hz : zeroB (b.drop 8) with
      | true => exact yes e1 hz
      | false => exact no (by simp [hz])
    refine ⟨?_, ?_⟩
    · refine rd_lst rfl ⟨bytesOK_ofStr _, rd_lst rfl ⟨bytesOK_ofStr _, ?_⟩⟩
      rw [strOf_ofStr, strOf_ofStr, cmpS_eql]
      by_cases e1 : superB g = b.take 8
      · refine ifB_t (by simpa using e1) ?_
        rw [lenL_lst, ofStr_len, superB_len]
        refine slice_from (x := 8) (by omega) ?_
        refine c46 mx (by rw [List.length_drop]; omega) ?_
        rw [onC_B]
        repeat (refine ⟨rfl, ?_⟩)
        cases hz : zeroB (b.drop 8) with
        | true => exact yes e1 hz _ _ _ _ _
        | false => exact no (by simp [hz]) _ _ _ _ _
      · refine ifB_f (by simpa using e1) ?_
        repeat (refine ⟨rfl, ?_⟩)
        exact no (fun h => e1 h.1) _ _ _ _ _
    · refine rd_lst rfl ⟨bytesOK_ofStr _, rd_lst rfl ⟨bytesOK_ofStr _, ?_⟩⟩
      rw [strOf_ofStr, strOf_ofStr, cmpS_eql]
      by_cases e1 : superB g = b.take 8
      · refine ifB_t (by simpa using e1) ?_
        rw [lenL_lst, ofStr_len, superB_len]
        refine slice_from (x := 8) (by omega) ?_
        refine c46 mx (by rw [List.length_drop]; omega) ?_
        rw [onC_B]
        repeat (refine ⟨rfl, ?_⟩)
        cases hz : zeroB (b.drop 8) with
        | true => exact yes e1 hz _ _ _ _ _
        | false => exact no (by simp [hz]) _ _ _ _ _
      · refine ifB_f (by simpa using e1) ?_
        repeat (refine ⟨rfl, ?_⟩)
        exact no (fun h => e1 h.1) _ _ _ _ _
  have hc : ∀ n, cand D n ≤ 2147483647 := fun n => by unfold cand; split <;> omega
  refine round 0 0 (by omega) (by omega) (round _ 1 (by omega) (by have := hc 0; omega) ?_)
  refine hI _ _ _ (ifB_f (lss_f (by omega)) ?_)
  have e : max (max 0 (cand D 0)) (cand D 1) = newest D := by unfold newest; omega
  rw [e]; exact hq

theorem oneL_some {D : Dk} (hok : DkOK D) {at_ end_ gen : Nat} {b : List UInt8} (hend : end_ ≤ D.lasts.length) (h : oneL D at_ end_ gen = some b) : at_ + sizeOf' b.length ≤ end_ ∧ b.length ≤ 8192 := by
  unfold oneL at h
  split at h
  · split at h
    · split at h
      · rename_i h3
        split at h
        · cases h
          have hb := bodyOf_len hok (at_ := at_) (size := numOf (((D.read at_).drop 4).take 4)) (by omega)
          have hs : sizeOf' (numOf (((D.read at_).drop 4).take 4)) = 1 + (numOf (((D.read at_).drop 4).take 4) + 63) / 64 := rfl
          rw [List.length_take, Nat.min_eq_left (by omega)]
          exact ⟨h3.2, h3.1⟩
        · cases h
      · cases h
    · cases h
  · cases h
theorem scanF_le {D : Dk} (hok : DkOK D) {end_ gen : Nat} (hend : end_ ≤ D.lasts.length) : ∀ k at_, at_ ≤ end_ → at_ ≤ (scanF D end_ gen k at_).2 ∧ (scanF D end_ gen k at_).2 ≤ end_
  | 0, at_, h => ⟨Nat.le_refl _, h⟩
  | k + 1, at_, h => by
    unfold scanF
    split
    · exact ⟨Nat.le_refl _, h⟩
    · rename_i b hb
      have h1 := oneL_some hok hend hb
      have h2 := scanF_le (gen := gen) hok hend k (at_ + sizeOf' b.length) h1.1
      exact ⟨by have := h2.1; simp only; omega, h2.2⟩

structure Lg where
  gen : Nat
  at_ : Nat
  down : Bool

structure WAt1 (h : H) (q p : Nat) (L : Lg) (D : Dk) (js : List Nat) : Prop where
  hq : h.m q = some (.cells 82 [.ptr (some (p, 0)), .int .i64 (L.gen : Int), .int .i64 (L.at_ : Int), .bool L.down])
  hd : DAt p D h js
  nq : q ∉ js
  n4 : 4 ≤ D.lasts.length
  g : L.gen ≤ 2147483647
  a0 : L.at_ ≤ hi D.lasts.length L.gen

/-- A log on a disk. -/
def WAt (q p : Nat) (L : Lg) (D : Dk) (h : H) (ids : List Nat) : Prop := ∃ js, ids = q :: js ∧ WAt1 h q p L D js

theorem wat_obj (q p : Nat) (L : Lg) (D : Dk) : Obj' (WAt q p L D) where
  le := by
    rintro h h' ids ⟨js, rfl, w⟩ hle
    exact ⟨js, rfl, ⟨(hle q (by simp)).1 _ w.hq, (dat_obj p D).le _ _ _ w.hd fun b hb => hle b (by simp [hb]), w.nq, w.n4, w.g, w.a0⟩⟩
  lie := by
    rintro h ids ⟨js, rfl, w⟩ b hb hf
    rcases List.mem_cons.1 hb with rfl | hb
    · have := w.hq; rw [hf.1] at this; cases this
    · exact (dat_obj p D).lie _ _ w.hd b hb hf

/-- What comes of a disk when it is opened. -/
def openD (D : Dk) : Dk × Bool := if newest D = 0 then D.exec (formatCmds D) else (D, false)
def openG (D : Dk) : Nat := if newest D = 0 then 1 else newest D
def openS (D : Dk) : List (List UInt8) × Nat := scanL (openD D).1 (lo D.lasts.length (openG D)) (hi D.lasts.length (openG D)) (openG D)
def openE (D : Dk) : Dk × Bool := (openD D).1.exec (cleanCmds (openD D).1 (openS D).2 (hi D.lasts.length (openG D)))

theorem newest_le (D : Dk) : newest D ≤ 2147483647 := by
  have hc : ∀ n, cand D n ≤ 2147483647 := fun n => by unfold cand; split <;> omega
  have := hc 0; have := hc 1
  unfold newest; omega

/-- Open: where there is power all along. -/
theorem c18 {p : Nat} {D : Dk} {h : H} {ids : List Nat} {Q : QQ} (hd : DAt p D h ids) (hn : 4 ≤ D.lasts.length) (hln : D.loose.length ≤ 100000) (hp1 : (openD D).2 = false) (hp2 : (openE D).2 = false)
    (hq : ∀ h' q ids' t, WAt q p ⟨openG D, (openS D).2, false⟩ (openE D).1 h' ids' → Stay h h' ids ids' → Q (.tup [.ptr (some (q, 0)), .lst t 1 ((openS D).1.map bAV), .int .i64 0]) h') : AC mx 18 [.ptr (some (p, 0))] h Q := by
  have hok := dat_ok hd
  have hn1024 := hok.n
  refine k18 mx _ ?_
  unfold sh18
  refine c26 mx hd ?_
  rw [onC_I]
  refine ifB_f (lss_f (by omega)) (c27 mx hd (by omega) ?_)
  rw [onC_I]
  intro J hJ
  have hnl := newest_le D
  have rest : ∀ h1 ids1, DAt p (openD D).1 h1 ids1 → Stay h h1 ids ids1 → (openD D).1.loose.length ≤ 1000000 → (openD D).1.lasts.length = D.lasts.length → J (openG D : Int) h1 := by
    intro h1 ids1 hd1 s1 hl1 hlt
    refine hJ _ _ ?_
    have hg : openG D ≤ 2147483647 := by unfold openG; split <;> omega
    obtain ⟨b1, b2, b3⟩ := @hi_le D.lasts.length (openG D) (by omega)
    refine c29 mx hd1 (by omega) (by omega) ?_
    rw [onT_II, hlt]
    refine c30 mx hd1 (by omega) b3 hg fun t => ?_
    rw [onT_OI]
    have hsl := scanF_le (gen := openG D) (dat_ok hd1) (end_ := hi D.lasts.length (openG D)) (by omega) (hi D.lasts.length (openG D) + 1) _ b3
    refine c31 mx hd1 (by omega) hsl.2 (by omega) fun h2 ids2 hd2 s2 => ?_
    change DAt p (openE D).1 h2 ids2 at hd2
    have e2 : ((openD D).1.exec (cleanCmds (openD D).1 (scanL (openD D).1 (lo D.lasts.length (openG D)) (hi D.lasts.length (openG D)) (openG D)).2 (hi D.lasts.length (openG D)))).2 = false := hp2
    rw [e2, onC_I]
    refine ifB_f (neq_f rfl) (oneP_intro rfl fun q hf => ?_)
    have hd3 := dat_le hd2 (le_put (o := .cells 82 [.ptr (some (p, 0)), .int .i64 (openG D : Int), .int .i64 ((scanL (openD D).1 (lo D.lasts.length (openG D)) (hi D.lasts.length (openG D)) (openG D)).2 : Int), .bool false]) hf)
    have hqn : q ∉ ids2 := fun hm => (dat_obj p _).lie _ _ hd2 q hm hf
    refine hq _ q (q :: ids2) t ⟨ids2, rfl, ⟨put_same, hd3, hqn, ?_, hg, ?_⟩⟩ ?_
    · unfold openE; rw [exec_lasts, hlt]; exact hn
    · unfold openE; rw [exec_lasts, hlt]; exact hsl.2
    · have s3 : Stay h2 (h2.put q (.cells 82 [.ptr (some (p, 0)), .int .i64 (openG D : Int), .int .i64 ((scanL (openD D).1 (lo D.lasts.length (openG D)) (hi D.lasts.length (openG D)) (openG D)).2 : Int), .bool false])) ids2 (q :: ids2) :=
        ⟨fun b o _ ho => (le_put hf).1 b o ho, fun _ _ _ he => he, fun b hb => by
          rcases List.mem_cons.1 hb with rfl | hb
          · exact .inr hf
          · exact .inl hb⟩
      exact (s1.trans s2).trans s3
  by_cases h0 : newest D = 0
  · refine ifB_t (eql_t (by omega)) (c28 mx hd (by omega) (by omega) fun h1 ids1 hd1 s1 => ?_)
    have e1 : openD D = D.exec (formatCmds D) := by unfold openD; rw [if_pos h0]
    rw [← e1] at hd1 ⊢
    rw [hp1, onC_I]
    refine ifB_f (neq_f rfl) ⟨rfl, ?_⟩
    have hg : (1 : Int) = (openG D : Int) := by unfold openG; rw [if_pos h0]; rfl
    rw [hg]
    have hl2 : (openD D).1.lasts.length = D.lasts.length := by rw [e1, exec_lasts]
    refine rest h1 ids1 hd1 s1 ?_ hl2
    rw [e1]
    have h4 := @exec_loose_le (formatCmds D) D
    have h5 := clean_len D (lo D.lasts.length 1) (hi D.lasts.length 1)
    obtain ⟨b1, _, _⟩ := @hi_le D.lasts.length 1 (by omega)
    unfold formatCmds at h4
    rw [List.length_append, show (instCmds 1).length = 2 from rfl] at h4
    unfold formatCmds
    omega
  · refine ifB_f (eql_f (by omega)) ⟨rfl, ?_⟩
    have e1 : openD D = (D, false) := by unfold openD; rw [if_neg h0]
    have hg : (newest D : Int) = (openG D : Int) := by unfold openG; rw [if_neg h0]
    rw [hg]
    exact rest h ids (by rw [e1]; exact hd) (.refl _ _) (by rw [e1]; simp only; omega) (by rw [e1])
end Go.AM

namespace Go.AM
open Go Go.Proofs
set_option maxRecDepth 20000
variable (mx : Int)

theorem c61 {q p : Nat} {L : Lg} {D : Dk} {h : H} {ids : List Nat} {Q : QQ} (w : WAt q p L D h ids) (hq : Q (.int .i64 (if L.down then 4 else 0)) h) : AC mx 61 [.ptr (some (q, 0))] h Q := by
  obtain ⟨js, rfl, w⟩ := w
  refine k61 mx _ ?_
  unfold sh61
  rw [nilPtr_ptr]
  refine ifB_f rfl ?_
  refine nn <| ld1_ptr w.hq (c := .bool L.down) rfl ?_
  rw [onC_B]
  cases hdn : L.down with
  | true => rw [hdn] at hq; exact hq
  | false => rw [hdn] at hq; exact hq

/-- Gen. -/
theorem c25 {q p : Nat} {L : Lg} {D : Dk} {h : H} {ids : List Nat} {Q : QQ} (w : WAt q p L D h ids) (hq : Q (.int .i64 (L.gen : Int)) h) : AC mx 25 [.ptr (some (q, 0))] h Q := by
  obtain ⟨js, rfl, w⟩ := w
  refine k25 mx _ ?_
  unfold sh25
  rw [nilPtr_ptr]
  refine ifB_f rfl ?_
  refine nn <| ld1_ptr w.hq (c := .int .i64 (L.gen : Int)) rfl ?_
  rw [onC_I]
  exact hq

/-- A log's block turns; its disk lies as it lay. -/
theorem wat_put {q p : Nat} {L L' : Lg} {D : Dk} {h : H} {js : List Nat} (w : WAt1 h q p L D js) (hg : L'.gen ≤ 2147483647) (ha : L'.at_ ≤ hi D.lasts.length L'.gen) :
    WAt1 (h.put q (.cells 82 [.ptr (some (p, 0)), .int .i64 (L'.gen : Int), .int .i64 (L'.at_ : Int), .bool L'.down])) q p L' D js :=
  ⟨put_same, (dat_obj p D).le _ _ _ w.hd fun b hb => ⟨fun o ho => by rw [put_other (by rintro rfl; exact w.nq hb)]; exact ho, fun e he => he⟩, w.nq, w.n4, hg, ha⟩

/-- done. -/
theorem c63 {q p : Nat} {L : Lg} {D : Dk} {h : H} {ids : List Nat} {e : Int} {Q : QQ} (w : WAt q p L D h ids)
    (hq : ∀ h', WAt q p { L with down := L.down || decide (e = 4) } D h' ids → Stay h h' ids ids → Q (.int .i64 e) h') : AC mx 63 [.ptr (some (q, 0)), .int .i64 e] h Q := by
  obtain ⟨js, rfl, w⟩ := w
  refine k63 mx _ _ ?_
  unfold sh63
  intro J hJ
  refine nn <| ld1_ptr w.hq (c := .bool L.down) rfl ?_
  rw [onC_B]
  have fin : ∀ dn, dn = (L.down || decide (e = 4)) → J (h.put q (.cells 82 [.ptr (some (p, 0)), .int .i64 (L.gen : Int), .int .i64 (L.at_ : Int), .bool dn])) := by
    rintro dn rfl
    refine hJ _ (hq _ ⟨js, rfl, wat_put (L' := { L with down := L.down || decide (e = 4) }) w w.g w.a0⟩ ?_)
    exact ⟨fun b o hb ho => by rw [put_other (by rintro rfl; exact hb (by simp))]; exact ho, fun _ _ _ he => he, fun b hb => .inl hb⟩
  cases hdn : L.down with
  | true =>
    refine ifB_t rfl (nn <| st_one w.hq rfl (by show 3 < 4; omega) ⟨rfl, ?_⟩)
    have := fin true (by rw [hdn]; rfl)
    exact this
  | false =>
    refine ifB_f rfl (nn <| st_one w.hq rfl (by show 3 < 4; omega) ⟨rfl, ?_⟩)
    have := fin (cmpI .eql e 4) (by rw [hdn]; by_cases h4 : e = 4 <;> simp [cmpI, h4])
    exact this

/-- A disk of a log turns. -/
theorem wat_disk {q p : Nat} {L : Lg} {D D' : Dk} {h h' : H} {js js' : List Nat} (w : WAt1 h q p L D js) (hd : DAt p D' h' js') (s : Stay h h' js js') (hl : D'.lasts.length = D.lasts.length) :
    WAt1 h' q p L D' js' ∧ Stay h h' (q :: js) (q :: js') := by
  have hqf : ¬ h.free q := fun hf => by have := w.hq; rw [hf.1] at this; cases this
  refine ⟨⟨s.m _ _ w.nq w.hq, hd, fun hm => ?_, by rw [hl]; exact w.n4, w.g, by rw [hl]; exact w.a0⟩, ⟨fun b o hb ho => s.m b o (fun hm => hb (by simp [hm])) ho, fun b e hb he => s.t b e (fun hm => hb (by simp [hm])) he, fun b hb => ?_⟩⟩
  · rcases s.new q hm with h1 | h1
    · exact w.nq h1
    · exact hqf h1
  · rcases List.mem_cons.1 hb with rfl | hb
    · exact .inl (by simp)
    · rcases s.new b hb with h1 | h1
      · exact .inl (by simp [h1])
      · exact .inr h1

/-- What an entry more does. -/
def appL (L : Lg) (D : Dk) (b : List UInt8) : Lg × Dk × Int :=
  if L.down then (L, D, 4)
  else if L.at_ + sizeOf' b.length ≤ hi D.lasts.length L.gen then
    if (D.exec (layCmds L.at_ L.gen b)).2 then ({ L with down := true }, (D.exec (layCmds L.at_ L.gen b)).1, 4)
    else ({ L with at_ := L.at_ + sizeOf' b.length }, (D.exec (layCmds L.at_ L.gen b)).1, 0)
  else (L, D, 3)

/-- Append. -/
theorem c37 {q p : Nat} {L : Lg} {D : Dk} {h : H} {ids : List Nat} {t : Tag} {b : List UInt8} {Q : QQ} (w : WAt q p L D h ids) (hb : b.length ≤ 8192) (hln : D.loose.length ≤ 10000000)
    (hq : ∀ h' ids', WAt q p (appL L D b).1 (appL L D b).2.1 h' ids' → Stay h h' ids ids' → Q (.int .i64 (appL L D b).2.2) h') : AC mx 37 [.ptr (some (q, 0)), .lst t 1 (ofStr b)] h Q := by
  refine k37 mx _ _ ?_
  unfold sh37
  refine c61 mx w ?_
  rw [onC_I]
  cases hdn : L.down with
  | true =>
    refine ifB_t (neq_t (by simp)) ?_
    have e : appL L D b = (L, D, 4) := by unfold appL; rw [if_pos hdn]
    rw [e] at hq
    exact hq h ids w (.refl _ _)
  | false =>
    refine ifB_f (neq_f rfl) ?_
    obtain ⟨js, rfl, w⟩ := w
    obtain ⟨b1, b2, b3⟩ := @hi_le D.lasts.length L.gen (by have := w.n4; omega)
    have hg := w.g
    refine nn <| ld1_ptr w.hq (c := .ptr (some (p, 0))) rfl ?_
    refine nn <| ld1_ptr w.hq (c := .int .i64 (L.gen : Int)) rfl ?_
    rw [onC_I]
    refine c29 mx w.hd (by have := w.n4; omega) (by omega) ?_
    rw [onT_II]
    refine nn <| ld1_ptr w.hq (c := .ptr (some (p, 0))) rfl ?_
    refine nn <| ld1_ptr w.hq (c := .int .i64 (L.at_ : Int)) rfl ?_
    rw [onC_I]
    refine nn <| ld1_ptr w.hq (c := .int .i64 (L.gen : Int)) rfl ?_
    rw [onC_I]
    refine c62 mx w.hd hb hg b1 w.a0 (by omega) (fun hno => ?_) (fun hfit h1 js1 hd1 s1 => ?_)
    · rw [onT_II]
      intro J hJ
      refine ifB_f (eql_f (by omega)) ⟨rfl, rfl, hJ _ ?_⟩
      refine c63 mx ⟨js, rfl, w⟩ fun h2 w2 s2 => ?_
      rw [onC_I]
      have e : appL L D b = (L, D, 3) := by unfold appL; rw [if_neg (by simp [hdn]), if_neg hno]
      rw [e] at hq
      have el : ({ L with down := L.down || decide ((3 : Int) = 4) } : Lg) = L := by rw [hdn]; cases L; simp_all
      rw [el] at w2
      exact hq h2 _ w2 s2
    · obtain ⟨w1, s2⟩ := wat_disk w hd1 s1 exec_lasts
      cases hx : (D.exec (layCmds L.at_ L.gen b)).2 with
      | true =>
        rw [if_pos rfl, onT_II]
        intro J hJ
        refine ifB_f (eql_f (by omega)) ⟨rfl, rfl, hJ _ ?_⟩
        refine c63 mx ⟨js1, rfl, w1⟩ fun h2 w2 s3 => ?_
        rw [onC_I]
        have e : appL L D b = ({ L with down := true }, (D.exec (layCmds L.at_ L.gen b)).1, 4) := by unfold appL; rw [if_neg (by simp [hdn]), if_pos hfit, if_pos hx]
        rw [e] at hq
        have el : ({ L with down := L.down || decide ((4 : Int) = 4) } : Lg) = { L with down := true } := by simp
        rw [el] at w2
        exact hq h2 _ w2 (s2.trans s3)
      | false =>
        rw [if_neg (by simp), onT_II]
        intro J hJ
        refine ifB_t (eql_t rfl) ?_
        refine nn <| st_one w1.hq rfl (by show 2 < 4; omega) ⟨rfl, rfl, hJ _ ?_⟩
        have hlt := @exec_lasts (layCmds L.at_ L.gen b) D
        have w3 := wat_put (L' := { L with at_ := L.at_ + sizeOf' b.length }) w1 hg (by rw [hlt]; exact hfit)
        have s3 : Stay h1 (h1.put q (.cells 82 [.ptr (some (p, 0)), .int .i64 (L.gen : Int), .int .i64 ((L.at_ + sizeOf' b.length : Nat) : Int), .bool L.down])) (q :: js1) (q :: js1) :=
          ⟨fun b o hb ho => by rw [put_other (by rintro rfl; exact hb (by simp))]; exact ho, fun _ _ _ he => he, fun b hb => .inl hb⟩
        refine c63 mx (h := h1.put q (.cells 82 [.ptr (some (p, 0)), .int .i64 (L.gen : Int), .int .i64 ((L.at_ + sizeOf' b.length : Nat) : Int), .bool L.down])) ⟨js1, rfl, w3⟩ fun h2 w2 s4 => ?_
        rw [onC_I]
        have e : appL L D b = ({ L with at_ := L.at_ + sizeOf' b.length }, (D.exec (layCmds L.at_ L.gen b)).1, 0) := by unfold appL; rw [if_neg (by simp [hdn]), if_pos hfit, if_neg (by simp [hx])]
        rw [e] at hq
        have el : ({ ({ L with at_ := L.at_ + sizeOf' b.length } : Lg) with down := L.down || decide ((0 : Int) = 4) } : Lg) = { L with at_ := L.at_ + sizeOf' b.length } := by cases L; simp_all
        rw [show ({ ({ L with at_ := L.at_ + sizeOf' b.length } : Lg) with down := ({ L with at_ := L.at_ + sizeOf' b.length } : Lg).down || decide ((0 : Int) = 4) } : Lg) = { L with at_ := L.at_ + sizeOf' b.length } from el] at w2
        exact hq h2 _ w2 ((s2.trans s3).trans s4)

def chkCmds (D : Dk) (gen : Nat) (b : List UInt8) : List Cmd :=
  cleanCmds D (lo D.lasts.length gen) (hi D.lasts.length gen) ++ (layCmds (lo D.lasts.length gen) gen b ++ instCmds gen)
/-- What an entry in the place of all does. -/
def chkL (L : Lg) (D : Dk) (b : List UInt8) : Lg × Dk × Int :=
  if L.down then (L, D, 4)
  else if 8192 < b.length then (L, D, 1)
  else if 2147483647 < L.gen + 1 ∨ half D.lasts.length < sizeOf' b.length then (L, D, 3)
  else if (D.exec (chkCmds D (L.gen + 1) b)).2 then ({ L with down := true }, (D.exec (chkCmds D (L.gen + 1) b)).1, 4)
  else ({ L with gen := L.gen + 1, at_ := lo D.lasts.length (L.gen + 1) + sizeOf' b.length }, (D.exec (chkCmds D (L.gen + 1) b)).1, 0)

theorem lay_len (a g : Nat) (b : List UInt8) (hb : b.length ≤ 8192) : (layCmds a g b).length ≤ 200 := by
  unfold layCmds sizeOf'
  rw [List.length_append, List.length_map, List.length_range]
  simp; omega

/-- Checkpoint. -/
theorem c38 {q p : Nat} {L : Lg} {D : Dk} {h : H} {ids : List Nat} {t : Tag} {b : List UInt8} {Q : QQ} (w : WAt q p L D h ids) (hb : b.length < 9223372036854775000) (hln : D.loose.length ≤ 1000000)
    (hq : ∀ h' ids', WAt q p (chkL L D b).1 (chkL L D b).2.1 h' ids' → Stay h h' ids ids' → Q (.int .i64 (chkL L D b).2.2) h') : AC mx 38 [.ptr (some (q, 0)), .lst t 1 (ofStr b)] h Q := by
  refine k38 mx _ _ ?_
  unfold sh38
  refine c61 mx w ?_
  rw [onC_I]
  cases hdn : L.down with
  | true =>
    refine ifB_t (neq_t (by simp)) ?_
    have e : chkL L D b = (L, D, 4) := by unfold chkL; rw [if_pos hdn]
    rw [e] at hq
    exact hq h ids w (.refl _ _)
  | false =>
    refine ifB_f (neq_f rfl) ?_
    obtain ⟨js, rfl, w⟩ := w
    have hn4 := w.n4
    have hn1024 := (dat_ok w.hd).n
    have hg := w.g
    obtain ⟨b1, b2, b3⟩ := @hi_le D.lasts.length (L.gen + 1) (by omega)
    refine nn <| ld1_ptr w.hq (c := .int .i64 (L.gen : Int)) rfl ?_
    rw [onC_I]
    refine nn <| ld1_ptr w.hq (c := .ptr (some (p, 0))) rfl ?_
    rw [ar_add (by omega) (by omega)]
    have eg : (L.gen : Int) + 1 = ((L.gen + 1 : Nat) : Int) := by omega
    rw [eg]
    refine c29 mx w.hd (by omega) (by omega) ?_
    rw [onT_II, lenL_lst, ofStr_len]
    by_cases h8 : 8192 < b.length
    · refine ifB_t (gtr_t (by omega)) ?_
      have e : chkL L D b = (L, D, 1) := by unfold chkL; rw [if_neg (by simp [hdn]), if_pos h8]
      rw [e] at hq
      exact hq h _ ⟨js, rfl, w⟩ (.refl _ _)
    refine ifB_f (gtr_f (by omega)) ?_
    intro J hJ
    have full : (2147483647 < L.gen + 1 ∨ half D.lasts.length < sizeOf' b.length) → J true h := fun hf => by
      refine hJ _ _ (ifB_t rfl ?_)
      have e : chkL L D b = (L, D, 3) := by unfold chkL; rw [if_neg (by simp [hdn]), if_neg h8, if_pos hf]
      rw [e] at hq
      exact hq h _ ⟨js, rfl, w⟩ (.refl _ _)
    by_cases hgm : 2147483647 < L.gen + 1
    · exact ifB_t (gtr_t (by omega)) ⟨rfl, rfl, rfl, rfl, rfl, full (.inl hgm)⟩
    refine ifB_f (gtr_f (by omega)) ?_
    rw [lenL_lst, ofStr_len]
    refine c49 mx (by omega) (by omega) ?_
    rw [onC_I, Int.toNat_natCast]
    have hsz : sizeOf' b.length = 1 + (b.length + 63) / 64 := rfl
    have ehl : ar .sub .i64 (hi D.lasts.length (L.gen + 1) : Int) (lo D.lasts.length (L.gen + 1) : Int) = (half D.lasts.length : Nat) := by
      rw [ar_sub (by omega) (by omega)]; unfold hi; omega
    rw [ehl]
    refine ⟨rfl, rfl, rfl, rfl, rfl, ?_⟩
    by_cases hfit : half D.lasts.length < sizeOf' b.length
    · rw [gtr_t (by omega)]; exact full (.inr hfit)
    rw [gtr_f (by omega)]
    refine hJ _ _ (ifB_f rfl ?_)
    clear hJ J full
    have hfit' : lo D.lasts.length (L.gen + 1) + sizeOf' b.length ≤ hi D.lasts.length (L.gen + 1) := by unfold hi; omega
    have echk : chkL L D b = if (D.exec (chkCmds D (L.gen + 1) b)).2 then ({ L with down := true }, (D.exec (chkCmds D (L.gen + 1) b)).1, 4) else ({ L with gen := L.gen + 1, at_ := lo D.lasts.length (L.gen + 1) + sizeOf' b.length }, (D.exec (chkCmds D (L.gen + 1) b)).1, 0) := by
      unfold chkL; rw [if_neg (by simp [hdn]), if_neg h8, if_neg (by omega)]
    -- where the power goes
    have fail : ∀ h1 js1 D1, D.exec (chkCmds D (L.gen + 1) b) = (D1, true) → WAt1 h1 q p L D1 js1 → Stay h h1 (q :: js) (q :: js1) →
        AC mx 63 [.ptr (some (q, 0)), .int .i64 4] h1 fun r33 h34 => onC (.I .i64) r33 fun (n35 : Int) => Q (.int .i64 (n35)) h34 := by
      intro h1 js1 D1 e w1 s1
      refine c63 mx ⟨js1, rfl, w1⟩ fun h2 w2 s2 => ?_
      rw [onC_I]
      rw [echk, e, if_pos rfl] at hq
      have el : ({ L with down := L.down || decide ((4 : Int) = 4) } : Lg) = { L with down := true } := by simp
      rw [el] at w2
      exact hq h2 _ w2 (s1.trans s2)
    refine nn <| ld1_ptr w.hq (c := .ptr (some (p, 0))) rfl ?_
    have hx0 : D.exec (chkCmds D (L.gen + 1) b) = if (D.exec (cleanCmds D (lo D.lasts.length (L.gen + 1)) (hi D.lasts.length (L.gen + 1)))).2 then D.exec (cleanCmds D (lo D.lasts.length (L.gen + 1)) (hi D.lasts.length (L.gen + 1))) else (D.exec (cleanCmds D (lo D.lasts.length (L.gen + 1)) (hi D.lasts.length (L.gen + 1)))).1.exec (layCmds (lo D.lasts.length (L.gen + 1)) (L.gen + 1) b ++ instCmds (L.gen + 1)) := exec_append
    have hcl := clean_len D (lo D.lasts.length (L.gen + 1)) (hi D.lasts.length (L.gen + 1))
    have hll := @exec_loose_le (cleanCmds D (lo D.lasts.length (L.gen + 1)) (hi D.lasts.length (L.gen + 1))) D
    have hlt := @exec_lasts (cleanCmds D (lo D.lasts.length (L.gen + 1)) (hi D.lasts.length (L.gen + 1))) D
    refine c31 mx w.hd b1 b3 (by omega) fun h1 js1 hd1 s1 => ?_
    generalize D.exec (cleanCmds D (lo D.lasts.length (L.gen + 1)) (hi D.lasts.length (L.gen + 1))) = r1 at hx0 hll hlt hd1 ⊢
    obtain ⟨D1, dn1⟩ := r1
    obtain ⟨w1, t1⟩ := wat_disk w hd1 s1 hlt
    rw [onC_I]
    cases dn1 with
    | true =>
      rw [if_pos rfl] at hx0
      exact ifB_t (neq_t (by simp)) (fail h1 js1 D1 hx0 w1 t1)
    | false =>
      rw [if_neg (by simp)] at hx0
      simp only at hll hlt hx0
      replace w1 : WAt1 h1 q p L D1 js1 := w1
      refine ifB_f (neq_f rfl) ?_
      refine nn <| ld1_ptr w1.hq (c := .ptr (some (p, 0))) rfl ?_
      rw [exec_append] at hx0
      have hll2 := @exec_loose_le (layCmds (lo D.lasts.length (L.gen + 1)) (L.gen + 1) b) D1
      have hlt2 := @exec_lasts (layCmds (lo D.lasts.length (L.gen + 1)) (L.gen + 1) b) D1
      have hcl2 := lay_len (lo D.lasts.length (L.gen + 1)) (L.gen + 1) b (by omega)
      refine c62 mx w1.hd (by omega) (by omega) (by omega) b3 (by omega) (fun hno => absurd hfit' hno) (fun _ h2 js2 hd2 s2 => ?_)
      generalize D1.exec (layCmds (lo D.lasts.length (L.gen + 1)) (L.gen + 1) b) = r2 at hx0 hll2 hlt2 hd2 ⊢
      obtain ⟨D2, dn2⟩ := r2
      obtain ⟨w2, t2⟩ := wat_disk w1 hd2 s2 hlt2
      cases dn2 with
      | true =>
        rw [if_pos rfl] at hx0
        rw [if_pos rfl, onT_II]
        exact ifB_t (neq_t (by omega)) (fail h2 js2 D2 hx0 w2 (t1.trans t2))
      | false =>
        rw [if_neg (by simp)] at hx0
        simp only at hll2 hlt2 hx0
        replace w2 : WAt1 h2 q p L D2 js2 := w2
        rw [if_neg (by simp), onT_II]
        refine ifB_f (neq_f rfl) ?_
        intro J hJ
        refine nn <| ld1_ptr w2.hq (c := .ptr (some (p, 0))) rfl ?_
        have hlt3 := @exec_lasts (instCmds (L.gen + 1)) D2
        refine c47 mx w2.hd (by omega) (by omega) (by omega) fun h3 js3 hd3 s3 => ?_
        generalize D2.exec (instCmds (L.gen + 1)) = r3 at hx0 hlt3 hd3 ⊢
        obtain ⟨D3, dn3⟩ := r3
        obtain ⟨w3, t3⟩ := wat_disk w2 hd3 s3 hlt3
        have t13 := (t1.trans t2).trans t3
        rw [onC_I]
        cases dn3 with
        | true =>
          refine ifB_f (eql_f (by simp)) ⟨rfl, hJ _ _ ?_⟩
          exact fail h3 js3 D3 hx0 w3 t13
        | false =>
          refine ifB_t (eql_t rfl) ?_
          refine nn <| st_one w3.hq rfl (by show 1 < 4; omega) ?_
          refine nn <| st_one put_same rfl (by show 2 < 4; omega) ⟨rfl, hJ _ _ ?_⟩
          rw [put_put]
          have hgm' : L.gen + 1 ≤ 2147483647 := by omega
          simp only at hlt3
          have w4 := wat_put (L' := { L with gen := L.gen + 1, at_ := lo D.lasts.length (L.gen + 1) + sizeOf' b.length }) w3 hgm' (by simp only; rw [hlt3, hlt2, hlt]; exact hfit')
          have s4 : Stay h3 (h3.put q (.cells 82 [.ptr (some (p, 0)), .int .i64 ((L.gen + 1 : Nat) : Int), .int .i64 ((lo D.lasts.length (L.gen + 1) + sizeOf' b.length : Nat) : Int), .bool L.down])) (q :: js3) (q :: js3) :=
            ⟨fun b o hb ho => by rw [put_other (by rintro rfl; exact hb (by simp))]; exact ho, fun _ _ _ he => he, fun b hb => .inl hb⟩
          refine c63 mx (h := h3.put q (.cells 82 [.ptr (some (p, 0)), .int .i64 ((L.gen + 1 : Nat) : Int), .int .i64 ((lo D.lasts.length (L.gen + 1) + sizeOf' b.length : Nat) : Int), .bool L.down])) ⟨js3, rfl, w4⟩ fun h5 w5 s5 => ?_
          rw [onC_I]
          rw [echk, hx0, if_neg (by simp)] at hq
          have w6 : WAt q p ⟨L.gen + 1, lo D.lasts.length (L.gen + 1) + sizeOf' b.length, L.down || decide ((0 : Int) = 4)⟩ D3 h5 (q :: js3) := w5
          have el : (L.down || decide ((0 : Int) = 4)) = L.down := by simp
          rw [el] at w6
          exact hq h5 _ w6 ((t13.trans s4).trans s5)
end Go.AM
