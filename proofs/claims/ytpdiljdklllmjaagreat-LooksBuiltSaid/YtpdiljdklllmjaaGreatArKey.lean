/- Nodes as a map's keys. Conditions: none. -/
import Derived.Test.YtpdiljdklllmjaaGreatArSpec
import Derived.DeepKeys4

namespace Go.Proofs.YtpdiljdklllmjaaGreat.ar
open Go Go.Ev Go.Proofs
open Go.Maps (Keyed)

theorem key_nd : Keyed Tryz.prog 61 := Keyed.of_law (deep_law_laid (m := 4) (by kernel_rfl) (by omega) (of_decide_eq_true (by kernel_rfl)) (by kernel_rfl) (by rw [Tryz.underlying61]))
theorem key_int : Keyed Tryz.prog 3 := Go.Maps.int_keyed Tryz.underlying3
theorem isK_int (z : Int) (h : i64 z) : IsK Tryz.prog 3 (.int .i64 z) := ⟨_, Go.Maps.keyOf_int_mk Tryz.underlying3 (by unfold Lit.wf; simp only [Bool.and_eq_true, decide_eq_true_eq]; exact h)⟩
theorem wf_i {z : Int} (h : i64 z) : (Lit.int .i64 z).wf = true := by unfold Lit.wf; simp only [Bool.and_eq_true, decide_eq_true_eq]; exact h
theorem wf_u {z : Int} (h : u64 z) : (Lit.int .u64 z).wf = true := by unfold Lit.wf; simp only [Bool.and_eq_true, decide_eq_true_eq]; exact h
theorem lit_i (d : Nat) {z : Int} (h : i64 z) : Tryz.prog.keyLits (d + 1) 3 [.int .i64 z] = some [.int .i64 z] := by
  unfold Program.keyLits
  simp only [Tryz.underlying3]
  exact if_pos ⟨trivial, wf_i h⟩
theorem lit_u (d : Nat) {z : Int} (h : u64 z) : Tryz.prog.keyLits (d + 1) 22 [.int .u64 z] = some [.int .u64 z] := by
  unfold Program.keyLits
  simp only [Tryz.underlying22]
  exact if_pos ⟨trivial, wf_u h⟩
theorem lit_b (d : Nat) (b : Bool) : Tryz.prog.keyLits (d + 1) 4 [.bool b] = some [.bool b] := by
  unfold Program.keyLits
  simp only [Tryz.underlying4]
theorem lit_set (d : Nat) {a b c e : Int} (h1 : u64 a) (h2 : u64 b) (h3 : u64 c) (h4 : u64 e) :
    Tryz.prog.keyLits (d + 2) 24 [.int .u64 a, .int .u64 b, .int .u64 c, .int .u64 e] = some [.int .u64 a, .int .u64 b, .int .u64 c, .int .u64 e] := by
  have c1 : Tryz.prog.cellsOf 22 = 1 := by kernel_rfl
  have c4 : Tryz.prog.cellsOf 24 = 4 := by kernel_rfl
  unfold Program.keyLits
  simp only [Tryz.underlying24]
  simp only [c1, c4, List.length_cons, List.length_nil, if_true, List.range, List.range.loop, List.mapM_cons, List.mapM_nil, Nat.mul_one, List.drop_zero, List.drop_succ_cons, List.take_succ_cons, List.take_zero, lit_u _ h1, lit_u _ h2, lit_u _ h3, lit_u _ h4]
  rfl
theorem lits_nd (d : Nat) (x : Nd) (h : InN x) : Tryz.prog.keyLits (d + 4) 61 (ndC x) = some [.int .i64 x.k, .int .u64 x.s0, .int .u64 x.s1, .int .u64 x.s2, .int .u64 x.s3, .int .i64 x.a, .int .i64 x.b, .bool x.neg] := by
  have c1 : Tryz.prog.cellsOf 3 = 1 := by kernel_rfl
  have c4 : Tryz.prog.cellsOf 24 = 4 := by kernel_rfl
  have c2 : Tryz.prog.cellsOf 4 = 1 := by kernel_rfl
  have c8 : Tryz.prog.cellsOf 61 = 8 := by kernel_rfl
  unfold Program.keyLits
  simp only [Tryz.underlying61]
  simp only [c8, ndC_len]
  rw [if_pos ⟨trivial, by decide +kernel⟩]
  simp only [List.mapM_cons, List.mapM_nil, c1, c2, c4, ndC, List.drop_zero, List.drop_succ_cons, List.take_succ_cons, List.take_zero, lit_i _ h.k, lit_set _ h.s0 h.s1 h.s2 h.s3, lit_i _ h.a, lit_i _ h.b, lit_b]
  rfl
theorem isK_nd (x : Nd) (h : InN x) : IsK Tryz.prog 61 (.agg (toArr (ndC x))) := by
  have hk : Tryz.prog.keyType 61 = true := by kernel_rfl
  have hs : ∃ d, Tryz.prog.types.size + 1 = d + 4 := ⟨Tryz.prog.types.size - 3, by have : 4 ≤ Tryz.prog.types.size := of_decide_eq_true (by kernel_rfl); omega⟩
  have c8 : Tryz.prog.cellsOf 61 = 8 := by kernel_rfl
  obtain ⟨d, hd⟩ := hs
  have hf : (Value.agg (toArr (ndC x))).formed Tryz.prog 61 = true := by
    unfold Value.formed
    rw [Tryz.underlying61]
    simp only [c8]; rfl
  have hl := lits_nd d x h
  refine ⟨.string (keyBytes [.int .i64 x.k, .int .u64 x.s0, .int .u64 x.s1, .int .u64 x.s2, .int .u64 x.s3, .int .i64 x.a, .int .i64 x.b, .bool x.neg]), ?_⟩
  unfold keyOf
  rw [Tryz.underlying61]
  simp only [hk, hf, Bool.and_true, if_true, hd]
  rw [show (Value.agg (toArr (ndC x))).cells.toList = ndC x from rfl, hl]
  rfl
theorem ndW_keys {ns : List Nd} (h : ∀ x ∈ ns, InN x) : ∀ i, ∀ y ∈ ndW ns i, IsK Tryz.prog 61 y.1 := by
  induction ns with
  | nil => intro i y hy; simp [ndW] at hy
  | cons a l ih =>
    intro i y hy
    rcases List.mem_cons.1 hy with rfl | hy
    · exact isK_nd a (h a (by simp))
    · exact ih (fun x hx => h x (by simp [hx])) _ y hy
end Go.Proofs.YtpdiljdklllmjaaGreat.ar
